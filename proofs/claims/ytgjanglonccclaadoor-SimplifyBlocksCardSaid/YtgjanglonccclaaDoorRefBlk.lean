/- Contract of the reference's Block (simplify). -/
import Derived.Test.YtgjanglonccclaaDoorRefStm
import Derived.Deep.RegionHeld3
import Derived.IntWalk
namespace Go.Proofs.YtgjanglonccclaaDoor
open Go.RowKit
set_option linter.unusedVariables false
set_option linter.unusedSimpArgs false

/-- While a row of readable nodes lies in a slot. -/
structure RL (w W : World) (N0 : Nat) (t : Node) (A : Option Addr) (c : Nat) (A3 : Option Addr) (c3 : Nat) (acc : List Node) (hs : List Hdr) : Prop where
  boxes : Boxes w W t A c
  parts : InParts W (XX N0 w.heap.size (w.heap.size + 1)) acc (.slice A3 acc.length c3) hs
  lo2 : ∀ g, (Value.slice A3 acc.length c3).ownBlock = some g → w.heap.size + 2 ≤ g
theorem RL.next {w W W2 : World} {N0 : Nat} {t : Node} {A : Option Addr} {c : Nat} {A3 : Option Addr} {c3 : Nat} {acc : List Node} {hs : List Hdr} (R : RL w W N0 t A c A3 c3 acc hs) (h : Below W.heap.size W W2) : RL w W2 N0 t A c A3 c3 acc hs :=
  ⟨R.boxes.next h, R.parts.below h, R.lo2⟩
theorem XX_off2 {N0 H B b : Nat} (h : b < N0 ∨ B ≤ b) (hN : N0 ≤ H) (hB : H + 2 ≤ B) : ¬ XX N0 H (H + 1) b := by unfold XX; omega
theorem RL.push {w wr w1 w2 : World} {N0 : Nat} {t : Node} {A : Option Addr} {c : Nat} {A3 : Option Addr} {c3 : Nat} {acc : List Node} {hs : List Hdr} (R : RL w wr N0 t A c A3 c3 acc hs) (hN : N0 ≤ w.heap.size) (hbw : Below wr.heap.size wr w1)
    {u : Node} {A4 : Option Addr} {c4 : Nat} (hu : u.In w1 (fun b => b < N0 ∨ wr.heap.size ≤ b) A4 c4) {g cap : Nat}
    (hrow : w2.ownsRow 0 24 4 (.slice (some ⟨g, 0, none⟩) (acc.length + 1) cap) (acc.length + 1) (valsAll acc hs ++ [.int .u8 u.kind, .int .i64 u.num, .string u.name, .slice A4 u.kids.length c4]))
    (hgr : (w1.alloc (.cells #[.int .u8 u.kind, .int .i64 u.num, .string u.name, .slice A4 u.kids.length c4] 24)).grownBy w2 (Value.slice A3 acc.length c3).ownBlock)
    (hat : (Value.slice A3 acc.length c3).ownBlock = some g ∨ g = w1.heap.size + 1) :
    RL w w2 N0 t A c (some ⟨g, 0, none⟩) cap (acc ++ [u]) (hs ++ [⟨A4, c4, fun _ => True⟩]) := by
  have hsz := hbw.size
  obtain ⟨W, hW⟩ : ∃ W, w1.alloc (.cells #[.int .u8 u.kind, .int .i64 u.num, .string u.name, .slice A4 u.kids.length c4] 24) = W := ⟨_, rfl⟩
  have hWs : W.heap.size = w1.heap.size + 1 := by rw [← hW]; simp
  have hW1 : Below w1.heap.size w1 W := by rw [← hW]; exact ext_alloc (Below.refl _ _) _
  rw [hW] at hgr
  have hbW : Below wr.heap.size wr W := ext_trans hbw hW1
  have B1 := R.boxes.next hbW
  have hgs := hgr.size
  have hz := R.boxes.size
  have hgl : ∀ x, (Value.slice A3 acc.length c3).ownBlock = some x → x < wr.heap.size := fun x hx => row_lt R.parts.row hx
  have hg2 : ∀ x, x < w.heap.size + 2 → some x ≠ (Value.slice A3 acc.length c3).ownBlock := fun x hx e => by
    have := R.lo2 x e.symm
    omega
  have keep : ∀ x, x < wr.heap.size → some x ≠ (Value.slice A3 acc.length c3).ownBlock → w2.heap[x]? = wr.heap[x]? := fun x hx hne => by
    rw [hgr.block _ (by omega) hne, hbW.block _ hx]
  have q : InParts w2 (XX N0 w.heap.size (w.heap.size + 1)) (acc ++ [u]) (.slice (some ⟨g, 0, none⟩) (acc.length + 1) cap) (hs ++ [⟨A4, c4, fun _ => True⟩]) := by
    refine (R.parts.below hbW).snoc (Node.In.move (fun b _ hb => hW1.block b hb) (fun b hb hlt => ⟨fun e => by
      have h1 := hgl b e.symm
      have h2 := R.lo2 b e.symm
      have h3 : b < N0 ∨ wr.heap.size ≤ b := hb
      omega, XX_off2 hb hN hz⟩) _ hu) hgr hrow (by
      rcases hat with h | h
      · exact .inl h.symm
      · exact .inr (by rw [h, ← hWs]; rfl)) (XX_off2 (.inr (Nat.le_refl _)) hN (by omega))
  refine ⟨⟨?_, ?_, ?_, ?_⟩, by rw [List.length_append, List.length_singleton]; exact q, ?_⟩
  · refine B1.below.grown hgr (by omega) (fun x hx => ?_)
    have := R.lo2 x hx
    omega
  · omega
  · rw [keep _ (by omega) (hg2 _ (by omega))]; exact R.boxes.box
  · rw [keep _ (by omega) (hg2 _ (by omega))]; exact R.boxes.res
  · intro x hx
    have hx : g = x := Option.some.inj hx
    subst hx
    rcases hat with h | h
    · exact R.lo2 g h
    · omega
theorem InParts.src {w : World} {X : Nat → Prop} {ks : List Node} {A : Option Addr} {c : Nat} {hs : List Hdr} (p : InParts w X ks (.slice A ks.length c) hs) : Src w A ks hs := by
  refine ⟨fun h => ?_, fun ad had j u hu => ?_⟩
  · rcases p.row.2 with ⟨h0, h1⟩ | ⟨g, cap, cur, hv, _⟩
    · have := p.row.1; have h1 : ks.length = 0 := by injection h0
      exact h1
    · rw [h] at hv; injection hv with hv; cases hv
  · have hj : j < (valsAll ks hs).length := (List.getElem?_eq_some_iff.1 hu).1
    rw [valsAll_length p.len] at hj
    have row := p.row
    obtain ⟨g, cap, e, _, _⟩ := row.form (by omega)
    rw [e] at row
    injection e with e _ _
    rw [had] at e
    obtain rfl := Option.some.inj e
    have e2 : (⟨g, 0, Option.none⟩ : Addr).add j = ⟨g, j, Option.none⟩ := by unfold Addr.add; split <;> simp_all
    rw [e2, row.cellAt j (by omega)]; exact hu
/-- A row without two of its nodes, made anew. -/
theorem RL.cut {w wr w2 : World} {N0 : Nat} {t : Node} {A : Option Addr} {c : Nat} {A3 A4 : Option Addr} {c3 c4 : Nat} {acc acc2 : List Node} {hs hs2 : List Hdr} (R : RL w wr N0 t A c A3 c3 acc hs) (hN : N0 ≤ w.heap.size) {i : Nat}
    (e1 : acc2 = acc.take i ++ acc.drop (i + 2)) (e2 : hs2 = hs.take i ++ hs.drop (i + 2)) (hb : Below wr.heap.size wr w2)
    (hrow : w2.ownsRow wr.heap.size 24 4 (.slice A4 acc2.length c4) acc2.length (valsAll acc2 hs2)) : RL w w2 N0 t A c A4 c4 acc2 hs2 := by
  have hz := R.boxes.size
  have hge := ownsRow_ge hrow
  have hl := R.parts.len
  refine ⟨R.boxes.next hb, ⟨?_, ?_, fun j h1 h2 => ?_, fun g hg => XX_off2 (.inr (hge g hg)) hN hz⟩, fun g hg => by have := hge g hg; omega⟩
  · rw [e1, e2]; simp [hl]
  · rcases hrow with ⟨h1, h2⟩
    refine ⟨h1, ?_⟩
    rcases h2 with h2 | ⟨g, cap, cur, h3, h4, r⟩
    · exact .inl h2
    · exact .inr ⟨g, cap, cur, h3, Nat.zero_le _, r⟩
  · have mv : ∀ {u : Node} {A5 : Option Addr} {c5 : Nat}, u.In wr (fun b => some b ≠ (Value.slice A3 acc.length c3).ownBlock ∧ ¬ XX N0 w.heap.size (w.heap.size + 1) b) A5 c5 → u.In w2 (fun b => some b ≠ (Value.slice A4 acc2.length c4).ownBlock ∧ ¬ XX N0 w.heap.size (w.heap.size + 1) b) A5 c5 := fun h =>
      Node.In.move (fun b _ hlt => hb.block b hlt) (fun b hok hlt => ⟨fun e => by have := hge b e.symm; omega, hok.2⟩) _ h
    obtain ⟨k, hk1, hk2⟩ : ∃ k, acc2[j]? = acc[k]? ∧ hs2[j]? = hs[k]? := by
      subst e1 e2
      by_cases hj : j < i
      · exact ⟨j, by rw [List.getElem?_append_left (by simp at h1 ⊢; omega), List.getElem?_take_of_lt hj], by rw [List.getElem?_append_left (by simp at h2 ⊢; omega), List.getElem?_take_of_lt hj]⟩
      · simp only [List.length_append, List.length_take, List.length_drop] at h1 h2
        refine ⟨j + 2, ?_, ?_⟩
        · rw [List.getElem?_append_right (by simp; omega), List.getElem?_drop]
          congr 1; simp; omega
        · rw [List.getElem?_append_right (by simp; omega), List.getElem?_drop]
          congr 1; simp; omega
    rw [List.getElem?_eq_getElem h1] at hk1
    rw [List.getElem?_eq_getElem h2] at hk2
    obtain ⟨k1, hk1⟩ := List.getElem?_eq_some_iff.1 hk1.symm
    obtain ⟨k2, hk2⟩ := List.getElem?_eq_some_iff.1 hk2.symm
    rw [← hk1, ← hk2]
    exact mv (R.parts.kids k k1 k2)

def sliceLen : Value → Nat
  | .slice _ n _ => n
  | _ => 0
/-- What holds of the row while pairs are struck out of it. -/
structure Striking (l0 acc : List Node) (i n : Nat) : Prop where
  red : redF [] acc = redF [] l0
  stmt : ∀ k ∈ acc, k.isStmt = true
  at_ : i ≤ acc.length
  len : acc.length ≤ n
  fine : ∀ m (h : m + 1 < acc.length), m < i → cancelsB acc[m] acc[m + 1] = false
theorem Striking.next {l0 acc : List Node} {i n : Nat} (S : Striking l0 acc i n) (h : i + 1 < acc.length) (hc : cancelsB acc[i] acc[i + 1] = false) : Striking l0 acc (i + 1) n :=
  ⟨S.red, S.stmt, by omega, S.len, fun m h1 h2 => by
    rcases Nat.lt_or_ge m i with h3 | h3
    · exact S.fine m h1 h3
    · obtain rfl : m = i := by omega
      exact hc⟩
theorem Striking.cut {l0 acc : List Node} {i n : Nat} (S : Striking l0 acc i n) (h : i + 1 < acc.length) (hc : cancelsB acc[i] acc[i + 1] = true) : Striking l0 (acc.take i ++ acc.drop (i + 2)) 0 n := by
  have e : acc = acc.take i ++ acc[i] :: acc[i + 1] :: acc.drop (i + 2) := by
    rw [← List.drop_eq_getElem_cons (show i + 1 < acc.length from h), ← List.drop_eq_getElem_cons (show i < acc.length by omega), List.take_append_drop]
  have h2 := redF_two (acc := []) (u := acc.take i) (v := acc.drop (i + 2)) redd_nil hc
  rw [← e] at h2
  refine ⟨by rw [← h2]; exact S.red, fun k hk => ?_, Nat.zero_le _, by have := S.len; simp; omega, fun m _ h => by omega⟩
  rcases List.mem_append.1 hk with hk | hk
  · exact S.stmt k (List.mem_of_mem_take hk)
  · exact S.stmt k (List.mem_of_mem_drop hk)
theorem Striking.done {l0 acc : List Node} {i n : Nat} (S : Striking l0 acc i n) (h : ¬ i + 1 < acc.length) : acc = redF [] l0 := by
  rw [← S.red]
  have := redF_redd acc [] (by
    intro u a b v e
    have hl : u.length + 1 < acc.length := by
      have := congrArg List.length e
      simp at this; omega
    have := S.fine u.length hl (by omega)
    simp only [List.nil_append] at e
    rw [List.getElem_of_eq e, List.getElem_of_eq e] at this
    simpa using this)
  simpa using this.symm
theorem refCancels_stmt {a b : Node} (ha : a.isStmt = true) (hb : b.isStmt = true) : refCancelsB a b = cancelsB a b := by simp [refCancelsB, cancelsB, ha, hb]

set_option maxHeartbeats 8000000 in
set_option maxRecDepth 100000 in
theorem refBlk_step (t : Node) (ht : t.isBlock = true) (ih : ∀ k ∈ t.kids, k.isStmt = true → RefStmRuns k) : RefBlkRuns t := by
  intro A c w N0 hN h
  have HF := Hd.mk (And.intro h.fits h.cap)
  have HH := Hd.mk h
  have hl := h.lenZ
  have HKS := Hd.mk (isBlock_kids ht)
  have IH := Hd.mk ih
  have B0 := Boxes.start w t A c
  have HE := Hd.mk (show t.simp = ⟨57, 0, ⟨#[]⟩, redF [] (t.kids.map Node.eachS)⟩ by rw [Node.simp_eq, simpAll_redF])
  obtain ⟨i0, hi, hz0, hz1, hz2⟩ := info_parts infoNode
  have hcap : t.kids.length * 56 ≤ 140737488355328 := h.cap
  have HST := Hd.mk B0
  clear h ih ht B0
  go_enter Tryd.func20, Tryd.ntmps20
  go_wp2_with fail
  go_loopw [3, 4] (fun v3 v4 W => ∃ (j : Nat) (A3 : Option Addr) (c3 : Nat) (acc : List Node) (hs : List Hdr), v3 = .slice A3 acc.length c3 ∧ v4 = .int .i64 j ∧ j ≤ t.kids.length ∧ Hd (acc = (t.kids.take j).map Node.eachS) ∧ RL w W N0 t A c A3 c3 acc hs) (fun _ v4 _ => t.kids.length - (intOf v4).toNat)
  case atStart => exact ⟨0, none, 0, [], [], rfl, rfl, Nat.zero_le _, ⟨rfl⟩, ⟨HST.out, InParts.nil, fun g hg => by simp [Value.ownBlock] at hg⟩⟩
  case round =>
    obtain ⟨j, A3, c3, acc, hs, rfl, rfl, hj, HA, R⟩ := hrel
    obtain ⟨⟨x0, x1, x2, x3⟩, ⟨y0, y1, y2, y3⟩, ⟨f0, f1, f2, f3⟩, hz⟩ := R.boxes.facts
    have HR := Hd.mk R
    have hal : acc.length = j := by rw [HA.out, List.length_map, List.length_take]; omega
    by_cases hlt : j < t.kids.length
    · obtain ⟨b, o, A1, c1, rfl, e0, e1, e2, e3, h4⟩ := (HH.out.below R.boxes.below).at_ j hlt
      have H4 := Hd.mk h4
      have HM := Hd.mk (show t.kids.take (j + 1) = t.kids.take j ++ [t.kids[j]] from List.take_succ_eq_append_getElem hlt)
      have hik := IH.out t.kids[j] (List.getElem_mem _) (HKS.out _ (List.getElem_mem _))
      unfold RefStmRuns at hik
      obtain ⟨u, hu⟩ : ∃ u, t.kids[j].eachS = u := ⟨_, rfl⟩
      rw [hu] at hik
      have HU := Hd.mk hu
      have HIk := Hd.mk hik
      have hNr : N0 ≤ wr.heap.size := by have := R.boxes.size; omega
      have hbnd : acc.length + 1 ≤ t.kids.length := by omega
      have hal2 : acc.length ≤ 2513169434915 := by omega
      have HROW := Hd.mk (fun W (hb : Below wr.heap.size wr W) => (R.parts.below hb).row)
      have HAL := Hd.mk hal
      clear R h4 hal hik hu
      go_wp2_with fail
      refine (HIk.out _ c1 _ N0 hNr H4.out).mono ?_
      rintro e w1 ⟨A4, c4, rfl, hb, hi4⟩
      have HBW := Hd.mk hb
      have HI4 := Hd.mk hi4
      clear hb hi4
      go_wp2_with (at_builtin; refine wpList_append_own_at _ rfl _ _ 22 rfl 0 24 i0 _ 4 56 Tryd.underlying22 hi hz0 hz1 hz2 rfl (by omega) (.slice A3 acc.length c3) acc.length (valsAll acc hs) rfl (HROW.out _ (ext_alloc HBW.out _)) ⟨w1.heap.size, 0, none⟩ 1 1 [.int .u8 u.kind, .int .i64 u.num, .string u.name, .slice A4 u.kids.length c4] rfl rfl (World.news_of_block (heap_alloc_new w1 _)) (by simp [Value.oneCell']) (by simp [maxLen]; omega) (by omega) (by omega) ?_; intro v' w2 hrow hgr _ hat; obtain ⟨g, cap, rfl, _, _⟩ := hrow.form (by omega))
      go_roundw
      case rel =>
        refine ⟨j + 1, some ⟨g, 0, none⟩, cap, acc ++ [u], _, by simp, by go_num, hlt, ⟨?_⟩, HR.out.push hN HBW.out HI4.out hrow hgr ?_⟩
        · rw [HM.out, List.map_append, HA.out, List.map_cons, HU.out]; rfl
        · rcases hat with e | e
          · exact .inl e.symm
          · exact .inr (by have := Option.some.inj e; simpa using this)
      case measure => simp [intOf]; omega
    · have : j = t.kids.length := by omega
      subst this
      have HS0 : Hd (Striking (t.kids.map Node.eachS) acc 0 t.kids.length) := ⟨⟨by rw [HA.out, List.take_length], fun k hk => by
        rw [HA.out, List.take_length] at hk
        obtain ⟨x, hx, rfl⟩ := List.mem_map.1 hk
        exact eachS_isStmt (HKS.out x hx), Nat.zero_le _, by omega, fun m _ h => by omega⟩⟩
      clear R hal
      go_wp2_with fail
      go_loopw [3, 5] (fun v3 v5 W => ∃ (i : Nat) (A3 : Option Addr) (c3 : Nat) (acc : List Node) (hs : List Hdr), v3 = .slice A3 acc.length c3 ∧ v5 = .int .i64 i ∧ Hd (Striking (t.kids.map Node.eachS) acc i t.kids.length) ∧ RL w W N0 t A c A3 c3 acc hs) (fun v3 v5 _ => sliceLen v3 * (t.kids.length + 2) + (sliceLen v3 - (intOf v5).toNat))
      case atStart => exact ⟨0, A3, c3, acc, hs, rfl, rfl, HS0, HR.out⟩
      case round =>
        clear x0 x1 x2 x3 y0 y1 y2 y3 f0 f1 f2 f3 hz HR HS0 HA hlt hj
        obtain ⟨i, A3, c3, acc, hs, rfl, rfl, HS, R⟩ := hrel
        obtain ⟨⟨x0, x1, x2, x3⟩, ⟨y0, y1, y2, y3⟩, ⟨f0, f1, f2, f3⟩, hz⟩ := R.boxes.facts
        have HR := Hd.mk R
        have hlen := HS.out.len
        have hati := HS.out.at_
        by_cases hlt : i + 1 < acc.length
        · obtain ⟨g, cap, h2, ev, hg, q0, q1, q2, q3⟩ := row_at R.parts.row R.parts.len i (by omega)
          obtain ⟨g', cap', h3, ev', _, r0, r1, r2, r3⟩ := row_at R.parts.row R.parts.len (i + 1) hlt
          obtain ⟨rfl, rfl⟩ : A3 = some ⟨g, 0, none⟩ ∧ c3 = cap := by injection ev with e1 _ e2; exact ⟨e1, e2⟩
          obtain rfl : g = g' := by injection ev' with e1 _ e2; injection e1 with e1; injection e1 with e1
          have hkc : acc.length ≤ c3 := row_cap R.parts.row
          have HCN := Hd.mk (fun h => HS.out.next hlt h)
          have HCC := Hd.mk (fun h => HS.out.cut hlt h)
          have HC := Hd.mk (fun (W : World) (hb : Below wr.heap.size wr W) => (refCancels_stmt (HS.out.stmt _ (List.getElem_mem _)) (HS.out.stmt _ (List.getElem_mem _))) ▸ refCancels_any acc[i] acc[i + 1] (HS.out.stmt _ (List.getElem_mem _)) hs[i].A hs[i + 1].A hs[i].c hs[i + 1].c W _ _ ((R.parts.kids i (by omega) h2).below hb) ((R.parts.kids (i + 1) hlt h3).below hb))
          have HRD := Hd.mk (R.parts.reads (t := ⟨57, 0, ⟨#[]⟩, acc⟩) ⟨by simp, by simp, by simp, by simp, by simp [ByteArray.size]⟩ (by show acc.length * 56 ≤ _; omega))
          have HSR := Hd.mk R.parts.src
          have HHL := Hd.mk R.parts.len
          have hal2 : (acc.length : Int) ≤ 2513169434916 := by omega
          have i1 : (0 : Int) ≤ (i : Int) := by omega
          have i2 : (i : Int) < (acc.length : Int) := by omega
          have i3 : (i : Int) + 1 < (acc.length : Int) := by omega
          obtain ⟨a, ha⟩ : ∃ a, acc[i] = a := ⟨_, rfl⟩
          obtain ⟨b, hb⟩ : ∃ b, acc[i + 1] = b := ⟨_, rfl⟩
          generalize hs[i] = ga at q0 q1 q2 q3 HC
          generalize hs[i + 1] = gb at r0 r1 r2 r3 HC
          rw [ha] at q0 q1 q2 q3 HC HCN HCC
          rw [hb] at r0 r1 r2 r3 HC HCN HCC
          clear R ha hb ev ev' h2 h3
          rw [Nat.succ_mul] at r0 r1 r2 r3
          obtain ⟨cb, hcb⟩ : ∃ x, cancelsB a b = x := ⟨_, rfl⟩
          rw [hcb] at HC HCN HCC
          clear hcb
          have z1 : (0 : Int) ≤ (i : Int) + 1 := by omega
          have z2 : ((i : Int) + 1).toNat = i + 1 := by omega
          have z3 : (i + 1) * 4 = i * 4 + 4 := by omega
          have z0 : IntKind.i64.wrap ((i : Int) + 1) = (i : Int) + 1 := IntWalk.i64_in _ (by omega)
          go_wp2_with fail
          go_region_held3 (fun W' => (W'.cell? ⟨g, i * 4, none⟩ = some (.int .u8 a.kind) ∧ W'.cell? ⟨g, i * 4 + 1, none⟩ = some (.int .i64 a.num) ∧ W'.cell? ⟨g, i * 4 + 2, none⟩ = some (.string a.name) ∧ W'.cell? ⟨g, i * 4 + 3, none⟩ = some (.slice ga.A a.kids.length ga.c)) ∧
            W'.cell? ⟨g, i * 4 + 4, none⟩ = some (.int .u8 b.kind) ∧ W'.cell? ⟨g, i * 4 + 4 + 1, none⟩ = some (.int .i64 b.num) ∧ W'.cell? ⟨g, i * 4 + 4 + 2, none⟩ = some (.string b.name) ∧ W'.cell? ⟨g, i * 4 + 4 + 3, none⟩ = some (.slice gb.A b.kids.length gb.c))
            (go_keep)
            (first
              | (go_at_call 13; refine (HC.out _ (Below.refl _ _).drew).mono ?_; rintro e w1 ⟨rfl, hb1⟩; have hbw : Below wr.heap.size wr w1 := ext_trans (Below.refl _ _).drew hb1; have s0 := (hbw.cell (p := ⟨g, i * 4, none⟩) hg).trans q0; have s1 := (hbw.cell (p := ⟨g, i * 4 + 1, none⟩) hg).trans q1; have s2 := (hbw.cell (p := ⟨g, i * 4 + 2, none⟩) hg).trans q2; have s3 := (hbw.cell (p := ⟨g, i * 4 + 3, none⟩) hg).trans q3; have u0 := (hbw.cell (p := ⟨g, i * 4 + 4, none⟩) hg).trans r0; have u1 := (hbw.cell (p := ⟨g, i * 4 + 4 + 1, none⟩) hg).trans r1; have u2 := (hbw.cell (p := ⟨g, i * 4 + 4 + 2, none⟩) hg).trans r2; have u3 := (hbw.cell (p := ⟨g, i * 4 + 4 + 3, none⟩) hg).trans r3; have HBW := Hd.mk hbw; clear hb1 hbw))
          clear z0 z1 z2 z3
          have HR1 := Hd.mk (HR.out.next HBW.out)
          cases cb
          · go_wp2_with fail
            go_roundw
            case rel => exact ⟨i + 1, some ⟨g, 0, none⟩, c3, acc, hs, rfl, by go_num, ⟨HCN.out rfl⟩, HR1.out⟩
            case measure => simp [intOf, sliceLen]; omega
          · have T1 := Src.take (HRD.out.below HBW.out) (HSR.out.below HBW.out) i
            have T3 := Src.drop (HRD.out.below HBW.out) (HSR.out.below HBW.out) (i + 2)
            have hcut1 := run_cut_to (some ⟨g, 0, none⟩) acc.length c3 i (by omega)
            have hcut3 := run_cut_from (some ⟨g, 0, none⟩) acc.length c3 (i + 2) hlt
            rw [show (((i + 2 : Nat) : Int)) = (i : Int) + 2 from rfl] at hcut3
            generalize cutTo (some ⟨g, 0, none⟩) 0 c3 = X1 at T1 hcut1
            generalize cutTo (some ⟨g, 0, none⟩) (i + 2) c3 = X3 at T3 hcut3
            have HT1 := Hd.mk T1
            have HT3 := Hd.mk T3
            obtain ⟨acc2, ea⟩ : ∃ x, x = acc.take i ++ acc.drop (i + 2) := ⟨_, rfl⟩
            obtain ⟨hs2, es⟩ : ∃ x, x = hs.take i ++ hs.drop (i + 2) := ⟨_, rfl⟩
            have hl1 : (acc.take i).length = i := by rw [List.length_take]; omega
            have hl3 : (acc.drop (i + 2)).length = acc.length - (i + 2) := by rw [List.length_drop]
            have HNO1 : Hd (X1 = none → i = 0) := ⟨fun h => by have := HT1.out.none h; rw [hl1] at this; exact this⟩
            have HNO3 : Hd (X3 = none → acc.length - (i + 2) = 0) := ⟨fun h => by have := HT3.out.none h; rw [hl3] at this; exact this⟩
            have hg1 : (acc.take i).length = (hs.take i).length := by rw [List.length_take, List.length_take, HHL.out]
            have hg3 : (acc.drop (i + 2)).length = (hs.drop (i + 2)).length := by rw [List.length_drop, List.length_drop, HHL.out]
            have HVL1 : Hd ((valsAll (acc.take i) (hs.take i)).length = i * 4) := ⟨by rw [valsAll_length hg1, hl1]⟩
            have HVL3 : Hd ((valsAll (acc.drop (i + 2)) (hs.drop (i + 2))).length = (acc.length - (i + 2)) * 4) := ⟨by rw [valsAll_length hg3, hl3]⟩
            have H1C : Hd (∀ u ∈ (valsAll (acc.take i) (hs.take i)), u.oneCell' = true) := ⟨vals_one _ _⟩
            have H3C : Hd (∀ u ∈ (valsAll (acc.drop (i + 2)) (hs.drop (i + 2))), u.oneCell' = true) := ⟨vals_one _ _⟩
            have HKL : Hd (i + (acc.length - (i + 2)) = acc2.length) := ⟨by rw [ea, List.length_append, hl1, hl3]⟩
            have HVA : Hd ((valsAll (acc.take i) (hs.take i)) ++ (valsAll (acc.drop (i + 2)) (hs.drop (i + 2))) = valsAll acc2 hs2) := ⟨by rw [ea, es, valsAll_append _ _ hg1]⟩
            have hk2 : acc2.length + 2 = acc.length := by have := HKL.out; omega
            have HK2 := Hd.mk hk2
            have M1 : Hd (i ≤ maxLen ∧ i * 56 ≤ 140737488355328 ∧ acc2.length ≤ maxLen ∧ acc2.length * 56 ≤ 140737488355328) := ⟨by simp only [maxLen]; omega⟩
            have HEA := Hd.mk ea
            have HES := Hd.mk es
            clear T1 T3 ea es hl1 hl3 hg1 hg3 hk2
            have z0 : IntKind.i64.wrap ((i : Int) + 2) = (i : Int) + 2 := IntWalk.i64_in _ (by omega)
            go_wp2_with fail
            go_region_held3 (fun W' => True) (trivial) (first
              | (have hh := HR11.out; have hz11 := BW11.out.size; refine step_append_to (by rfl) _ _ _ (by rfl) w1.heap.size 24 i0 _ 4 56 Tryd.underlying22 hi hz0 hz1 hz2 rfl (by omega) (.slice A4 i c4) i (valsAll (acc.take i) (hs.take i)) X3 (acc.length - (i + 2)) (c3 - (i + 2)) (valsAll (acc.drop (i + 2)) (hs.drop (i + 2))) acc2.length (valsAll acc2 hs2) HKL.out HVA.out (by rfl) ?_ (by rfl) HVL3.out HNO3.out (HT3.out.below ?_).at_ H3C.out M1.out.2.2.1 M1.out.2.2.2 ?_ ?_; (focus (with_reducible exact HR11.out)); (focus ((repeat first | (with_reducible exact Below.refl _ _) | (with_reducible exact BW11.out) | (with_reducible refine Below.drew ?_) | (with_reducible refine ext_alloc ?_ _)); done)); (focus (first | omega | (simp; omega))); intro A5 c5 w12 hrow hgr hat; refine have_then (p := Hd (Below w1.heap.size w1 w12)) ⟨below_grown ?_ hgr (fun g hg => ownsRow_ge hh g hg) ?_⟩ (fun BW12 => ?_); (focus ((repeat first | (with_reducible exact Below.refl _ _) | (with_reducible exact BW11.out) | (with_reducible refine Below.drew ?_) | (with_reducible refine ext_alloc ?_ _)); done)); (focus (first | omega | (simp; omega))); have HR12 := Hd.mk hrow; clear hrow hgr hat)
              | (refine step_append_to (by rfl) _ _ _ (by rfl) w1.heap.size 24 i0 _ 4 56 Tryd.underlying22 hi hz0 hz1 hz2 rfl (by omega) (.slice (some ⟨w1.heap.size, 0, none⟩) 0 0) 0 [] X1 i c3 (valsAll (acc.take i) (hs.take i)) i (valsAll (acc.take i) (hs.take i)) (Nat.zero_add _) rfl (by rfl) (empty_at ?_ ?_) (by rfl) HVL1.out HNO1.out (HT1.out.below ?_).at_ H1C.out M1.out.1 M1.out.2.1 ?_ ?_; (focus (first | omega | (simp; done) | (simp; omega))); (focus ((repeat first | ((with_reducible refine blk_top ?_); (first | rfl | (simp; done))) | (with_reducible refine blk_drew ?_) | (with_reducible refine blk_sub ?_)); done)); (focus ((repeat first | (with_reducible exact Below.refl _ _) | (with_reducible exact BW11.out) | (with_reducible refine Below.drew ?_) | (with_reducible refine ext_alloc ?_ _)); done)); (focus (first | omega | (simp; done) | (simp; omega))); intro A4 c4 w11 hrow hgr hat; refine have_then (p := Hd (Below w1.heap.size w1 w11)) ⟨below_grown ?_ hgr ?_ ?_⟩ (fun BW11 => ?_); (focus ((repeat first | (with_reducible exact Below.refl _ _) | (with_reducible exact BW11.out) | (with_reducible refine Below.drew ?_) | (with_reducible refine ext_alloc ?_ _)); done)); (focus (first | (simp [Value.ownBlock]; done) | (intro g hg; have h2 := Option.some.inj hg; dsimp only at h2; omega))); (focus (first | omega | (simp; done) | (simp; omega))); have HR11 := Hd.mk hrow; clear hrow hgr hat))
            go_wp2_with fail
            go_roundw
            case rel => exact ⟨0, A5, c5, acc2, hs2, rfl, by go_num, ⟨by rw [HEA.out]; exact HCC.out (by first | trivial | rfl)⟩, HR1.out.cut hN HEA.out HES.out BW12.out HR12.out⟩
            case measure =>
              have := HK2.out
              simp only [intOf, sliceLen]
              rw [← this, Nat.add_mul]
              omega
        · have HAC := Hd.mk (HS.out.done hlt)
          clear R
          go_wp2_with fail
          have hrd := HR.out.parts.reads (t := ⟨57, 0, ⟨#[]⟩, acc⟩) ⟨by simp, by simp, by simp, by simp, by simp [ByteArray.size]⟩ (by show acc.length * 56 ≤ _; omega)
          have hfin := RI_fin HR.out.boxes hrd (.int .u8 57) (.int .i64 0) (.string ⟨#[]⟩) (.slice A3 acc.length c3)
          have e : t.simp = ⟨57, 0, ⟨#[]⟩, acc⟩ := by rw [HE.out, HAC.out]
          refine bodyPost_ret (v := .agg #[.int .u8 57, .int .i64 0, .string ⟨#[]⟩, .slice A3 acc.length c3]) ?_ rfl ⟨A3, c3, by rw [e], hfin.1, by rw [e]; exact hfin.2⟩
          have hcc := res_cells (u0 := .int .u8 57) (u1 := .int .i64 0) (u2 := .string ⟨#[]⟩) (u3 := .slice A3 acc.length c3) HR.out.boxes.res
          simp [results, Tryd.results20, go_sem, hcc]
theorem refBoth_any (t : Node) : (t.isStmt = true → RefStmRuns t) ∧ (t.isBlock = true → RefBlkRuns t) := by
  induction t using Node.ind with
  | h t ih => exact ⟨fun h => refStm_step t h (fun k hk hb => (ih k hk).2 hb), fun h => refBlk_step t h (fun k hk hs => (ih k hk).1 hs)⟩
theorem refBlk_any {t : Node} (h : t.isBlock = true) : RefBlkRuns t := (refBoth_any t).2 h
end Go.Proofs.YtgjanglonccclaaDoor
