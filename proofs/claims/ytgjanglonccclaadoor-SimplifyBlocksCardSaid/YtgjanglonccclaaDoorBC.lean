/- Contract of the reference's Equal. -/
import Derived.Test.YtgjanglonccclaaDoorBB
import Derived.Deep.RegionHeld3
import Derived.Deep.DeepCutAuto
import Derived.Test.YtgjanglonccclaaDoorBA
namespace Go.Proofs.YtgjanglonccclaaDoor
open Go.RowKit
set_option linter.unusedVariables false
set_option linter.unusedSimpArgs false

def RefEqRuns (a : Node) : Prop := ∀ (b : Node) (A B : Option Addr) (c d : Nat) (w : World) (ok ok' : Nat → Prop), a.In w ok A c → b.In w ok' B d →
  Calls Tryd.prog 18 #[.agg #[.int .u8 a.kind, .int .i64 a.num, .string a.name, .slice A a.kids.length c], .agg #[.int .u8 b.kind, .int .i64 b.num, .string b.name, .slice B b.kids.length d]] w fun e w' => e = .returned (.bool (a.eqB b)) ∧ Below w.heap.size w w'

set_option maxHeartbeats 1000000 in
theorem refEqual_any (a : Node) : RefEqRuns a := by
  induction a using Node.ind with
  | h a ih =>
  intro b A B c d w ok ok' ha hb
  have B0 := Hd.mk (Boxes2.start w a A c b B d)
  have HX := Hd.mk (a.eqB_eq b)
  have IH := Hd.mk ih
  have HA := Hd.mk ha
  have HB := Hd.mk hb
  have hl := ha.lenZ
  have hm := hb.lenZ
  clear ha hb ih
  cases a0 : (a.kind == b.kind)
  · have n0 : (a.kind != b.kind) = true := by simp [bne, a0]
    go_enter Tryd.func18, Tryd.ntmps18
    go_wp2_with fail
    go_ret
    exact ⟨ret_bool (by rw [HX.out, a0]; rfl), B0.out.below⟩
  · have n0 : (a.kind != b.kind) = false := by simp [bne, a0]
    cases a1 : (a.num == b.num)
    · have n1 : (a.num != b.num) = true := by simp [bne, a1]
      go_enter Tryd.func18, Tryd.ntmps18
      go_wp2_with fail
      go_ret
      exact ⟨ret_bool (by rw [HX.out, a0, a1]; rfl), B0.out.below⟩
    · have n1 : (a.num != b.num) = false := by simp [bne, a1]
      cases a2 : (a.name.toList == b.name.toList)
      · have n2 : (a.name.toList != b.name.toList) = true := by simp [bne, a2]
        go_enter Tryd.func18, Tryd.ntmps18
        go_wp2_with fail
        go_ret
        exact ⟨ret_bool (by rw [HX.out, a0, a1, strB, a2]; rfl), B0.out.below⟩
      · have n2 : (a.name.toList != b.name.toList) = false := by simp [bne, a2]
        cases a3 : ((a.kids.length : Int) != (b.kids.length : Int))
        · have HL := Hd.mk (show a.kids.length = b.kids.length by simp at a3; omega)
          have HR := Hd.mk (show a.eqB b = eqsB a.kids b.kids by rw [HX.out, a0, a1, strB, a2]; rfl)
          go_enter Tryd.func18, Tryd.ntmps18
          go_wp2_with fail
          go_loopw [5] (fun v5 W => ∃ j : Nat, j ≤ a.kids.length ∧ v5 = .int .i64 j ∧ Hd (∀ i (h1 : i < a.kids.length) (h2 : i < b.kids.length), i < j → a.kids[i].eqB b.kids[i] = true) ∧ Boxes2 w W a A c b B d) (fun v5 _ => a.kids.length - (intOf v5).toNat)
          case atStart => exact ⟨0, Nat.zero_le _, rfl, ⟨fun i _ _ h => by omega⟩, B0.out⟩
          case round =>
            obtain ⟨j, hj, rfl, HS, BX⟩ := hrel
            obtain ⟨⟨x0, x1, x2, x3⟩, ⟨y0, y1, y2, y3⟩, hz⟩ := BX.facts
            have BX2 := Hd.mk BX
            by_cases hlt : j < a.kids.length
            · have hlt2 : j < b.kids.length := by have := HL.out; omega
              obtain ⟨b1, o1, A1, c1, rfl, e0, e1, e2, e3, h4⟩ := (HA.out.below BX.below).at_ j hlt
              obtain ⟨b2, o2, B1, d1, rfl, g0, g1, g2, g3, h5⟩ := (HB.out.below BX.below).at_ j hlt2
              have HI := Hd.mk (fun W (hb : Below wr.heap.size wr W) => IH.out a.kids[j] (List.getElem_mem _) b.kids[j] A1 B1 c1 d1 W ok ok' (h4.below hb) (h5.below hb))
              have q0 := World.block_lt_of_cell? _ _ g0
              have q1 := World.block_lt_of_cell? _ _ e0
              have q2 := World.block_lt_of_cell? _ _ x0
              have q3 := World.block_lt_of_cell? _ _ y0
              have z0 : (0 : Int) ≤ (j : Int) := by omega
              have z1 : (j : Int) < (a.kids.length : Int) := by omega
              have z2 : (j : Int) < (b.kids.length : Int) := by omega
              obtain ⟨r, hr⟩ : ∃ r, a.kids[j].eqB b.kids[j] = r := ⟨_, rfl⟩
              rw [hr] at HI
              have HRr := Hd.mk hr
              clear hr h4 h5 BX
              go_wp2_with fail
              go_region_held3 (fun W' => (W'.cell? ⟨w.heap.size, 3, none⟩ = some (.slice (some ⟨b1, o1, none⟩) a.kids.length c) ∧ W'.cell? ⟨w.heap.size + 1, 3, none⟩ = some (.slice (some ⟨b2, o2, none⟩) b.kids.length d)) ∧
                (W'.cell? ⟨b1, o1 + j * 4, none⟩ = some (.int .u8 a.kids[j].kind) ∧ W'.cell? ⟨b1, o1 + j * 4 + 1, none⟩ = some (.int .i64 a.kids[j].num) ∧ W'.cell? ⟨b1, o1 + j * 4 + 2, none⟩ = some (.string a.kids[j].name) ∧ W'.cell? ⟨b1, o1 + j * 4 + 3, none⟩ = some (.slice A1 a.kids[j].kids.length c1)) ∧
                (W'.cell? ⟨b2, o2 + j * 4, none⟩ = some (.int .u8 b.kids[j].kind) ∧ W'.cell? ⟨b2, o2 + j * 4 + 1, none⟩ = some (.int .i64 b.kids[j].num) ∧ W'.cell? ⟨b2, o2 + j * 4 + 2, none⟩ = some (.string b.kids[j].name) ∧ W'.cell? ⟨b2, o2 + j * 4 + 3, none⟩ = some (.slice B1 b.kids[j].kids.length d1)))
                (go_keep)
                (first
                  | (go_at_call 18; refine (HI.out _ ((Below.refl _ _).drew)).mono ?_; rintro e w1 ⟨rfl, hb1⟩; have hbw : Below wr.heap.size wr w1 := ext_trans ((Below.refl _ _).drew) hb1; have s0 := (hbw.cell (p := ⟨w.heap.size, 3, none⟩) q2).trans x3; have s1 := (hbw.cell (p := ⟨w.heap.size + 1, 3, none⟩) q3).trans y3; have t0 := (hbw.cell (p := ⟨b1, o1 + j * 4, none⟩) q1).trans e0; have t1 := (hbw.cell (p := ⟨b1, o1 + j * 4 + 1, none⟩) q1).trans e1; have t2 := (hbw.cell (p := ⟨b1, o1 + j * 4 + 2, none⟩) q1).trans e2; have t3 := (hbw.cell (p := ⟨b1, o1 + j * 4 + 3, none⟩) q1).trans e3; have u0 := (hbw.cell (p := ⟨b2, o2 + j * 4, none⟩) q0).trans g0; have u1 := (hbw.cell (p := ⟨b2, o2 + j * 4 + 1, none⟩) q0).trans g1; have u2 := (hbw.cell (p := ⟨b2, o2 + j * 4 + 2, none⟩) q0).trans g2; have u3 := (hbw.cell (p := ⟨b2, o2 + j * 4 + 3, none⟩) q0).trans g3))
              have HW1 := Hd.mk hbw
              clear hbw
              cases r
              · go_wp2_with fail
                go_ret
                exact ⟨ret_bool (by rw [HR.out]; exact (eqsB_hit hlt hlt2 HRr.out).symm), ext_trans BX2.out.below HW1.out⟩
              · go_wp2_with fail
                go_roundw
                case rel =>
                  refine ⟨j + 1, hlt, by go_num, ⟨fun i h1 h2 h3 => ?_⟩, BX2.out.next HW1.out⟩
                  rcases Nat.lt_or_ge i j with h | h
                  · exact HS.out i h1 h2 h
                  · obtain rfl : i = j := by omega
                    exact HRr.out
                case measure => simp [intOf]; omega
            · have : j = a.kids.length := by omega
              subst this
              go_wp2_with fail
              go_ret
              exact ⟨ret_bool (by rw [HR.out]; exact (eqsB_all HL.out (fun i h1 h2 => HS.out i h1 h2 h1)).symm), BX2.out.below⟩
        · have HR := Hd.mk (show a.eqB b = eqsB a.kids b.kids by rw [HX.out, a0, a1, strB, a2]; rfl)
          have HF := Hd.mk (@eqsB_len a.kids b.kids (by simp at a3; omega))
          go_enter Tryd.func18, Tryd.ntmps18
          go_wp2_with fail
          go_ret
          exact ⟨ret_bool (by rw [HR.out, HF.out]), B0.out.below⟩
end Go.Proofs.YtgjanglonccclaaDoor

/- Contract of the reference's kind of the inverse. -/
namespace Go.Proofs.YtgjanglonccclaaDoor
open Go.RowKit
set_option linter.unusedVariables false
set_option linter.unusedSimpArgs false

def refKind (k : Int) : Int := if 40 ≤ k ∧ k ≤ 49 then invKind k else 0
theorem refKind_any (k : Int) (w : World) : Calls Tryd.prog 58 #[.int .u8 k] w fun e w' => e = .returned (.int .u8 (refKind k)) ∧ Below w.heap.size w w' := by
  by_cases h : 40 ≤ k ∧ k ≤ 49
  · have : k = 40 ∨ k = 41 ∨ k = 42 ∨ k = 43 ∨ k = 44 ∨ k = 45 ∨ k = 46 ∨ k = 47 ∨ k = 48 ∨ k = 49 := by omega
    clear h
    rcases this with rfl | rfl | rfl | rfl | rfl | rfl | rfl | rfl | rfl | rfl
    all_goals
      go_enter Tryd.func58, Tryd.ntmps58
      go_wp2_with fail
      go_ret
      exact ⟨ret_int (by simp [refKind, invKind_eq]), Below.refl _ _⟩
  · have q : ∀ m : Int, 40 ≤ m → m ≤ 49 → (k == m) = false := fun m h0 h1 => by
      rw [beq_eq_false_iff_ne]; omega
    have q0 := q 40 (by omega) (by omega)
    have q1 := q 41 (by omega) (by omega)
    have q2 := q 42 (by omega) (by omega)
    have q3 := q 43 (by omega) (by omega)
    have q4 := q 44 (by omega) (by omega)
    have q5 := q 45 (by omega) (by omega)
    have q6 := q 46 (by omega) (by omega)
    have q7 := q 47 (by omega) (by omega)
    have q8 := q 48 (by omega) (by omega)
    have q9 := q 49 (by omega) (by omega)
    have hr := Hd.mk (show refKind k = 0 by simp only [refKind, h, if_false])
    clear h q
    go_enter Tryd.func58, Tryd.ntmps58
    go_wp2_with fail
    go_ret
    exact ⟨ret_int (by rw [hr.out]), Below.refl _ _⟩
end Go.Proofs.YtgjanglonccclaaDoor

/- Rows of nodes that can be read, as they grow; append of a slice that came in. -/
namespace Go.Proofs.YtgjanglonccclaaDoor
open Go.RowKit
set_option linter.unusedVariables false
set_option linter.unusedSimpArgs false

theorem run_append_none {w : World} (base : Nat) (t ty e : TypeId) (i : TypeInfo) (size : Nat) (ht : Tryd.prog.underlying t = some (.slice e)) (hi : Tryd.prog.info? e = some i)
    (v : Value) (n : Nat) (xs : List Value) (hown : w.ownsRow base e size v n xs) (c : Nat) :
    (Builtin.append_ #[t, t] ty #[v, .slice none 0 c]).run Tryd.prog w = .ok v w := by
  rcases hown.2 with ⟨rfl, rfl⟩ | ⟨g, cap, cur, rfl, _, _, hnc, _⟩
  · simp [Builtin.append_, run_underlying ht, sizeOf, typeInfo, hi, Builtin.lenOf, Builtin.firstCells]
  · simp [Builtin.append_, run_underlying ht, sizeOf, typeInfo, hi, Builtin.lenOf, Builtin.firstCells, hnc, storeCells]

/-- A value that owns a row, written as a slice. -/
theorem row_slice {w : World} {base : Nat} {e : TypeId} {size : Nat} {v : Value} {n : Nat} {xs : List Value} (h : w.ownsRow base e size v n xs) : ∃ A c, v = .slice A n c ∧ n ≤ c := by
  rcases h.2 with ⟨h0, h1⟩ | ⟨g, cap, cur, hv, _, _, h3, _⟩
  · exact ⟨none, 0, by rw [h0, h1], by omega⟩
  · exact ⟨some ⟨g, 0, none⟩, cap, hv, h3⟩

/-- append of a whole slice that came in, whatever it is, at a step of a region that draws. -/
theorem step_append_src {w : World} {ops : Array Oper} {o : Oper} {a : Act} {K : Act → World → Prop} {Q : Exit → Act → World → Prop} {E : Prop} (hgd : o.guard = none) (s x : Operand) (t : TypeId)
    (ho : o.op = .call { callee := .builtin .append, args := #[s, x], argTypes := #[t, t] })
    (base : Nat) (e : TypeId) (i : TypeInfo) (z : Value) (size bytes : Nat) (ht : Tryd.prog.underlying t = some (.slice e)) (hi : Tryd.prog.info? e = some i) (hz : i.zero = some z)
    (hsize : i.size = size) (hby : i.bytes = bytes) (hzs : z.cells.size = size) (hsz : 0 < size)
    (v : Value) (n : Nat) (xs : List Value) (hs : a.eval s = v) (hown : w.ownsRow base e size v n xs)
    (A : Option Addr) (m c : Nat) (news : List Value) (hx : a.eval x = .slice A m c) (hl : news.length = m * size) (hnone : A = none → m = 0) (hnews : ∀ ad, A = some ad → ∀ j u, news[j]? = some u → w.cell? (ad.add j) = some u) (h1 : ∀ u ∈ news, u.oneCell' = true)
    (h63 : n + m ≤ maxLen) (hbytes : (n + m) * bytes ≤ 140737488355328) (hbase : base ≤ w.heap.size)
    (h : ∀ A' c' w', w'.ownsRow base e size (.slice A' (n + m) c') (n + m) (xs ++ news) → w.grownBy w' v.ownBlock → ((Value.slice A' (n + m) c').ownBlock = v.ownBlock ∨ (Value.slice A' (n + m) c').ownBlock = some w.heap.size) → K (a.put o.dst (.slice A' (n + m) c')) w') :
    if Region.wanted o (yielded ops a.tmps) = true then Oper.wp Tryd.prog o a w K Q else E := by
  have hw : Region.wanted o (yielded ops a.tmps) = true := by simp [Region.wanted, hgd]
  rw [if_pos hw]
  have key : ∃ v' w', (Builtin.append_ #[t, t] o.type #[v, .slice A m c]).run Tryd.prog w = .ok v' w' ∧ w'.ownsRow base e size v' (n + m) (xs ++ news) ∧ w.grownBy w' v.ownBlock ∧ (v'.ownBlock = v.ownBlock ∨ v'.ownBlock = some w.heap.size) := by
    cases A with
    | none =>
      obtain rfl := hnone rfl
      have hn : news = [] := List.length_eq_zero_iff.1 (by omega)
      subst hn
      exact ⟨v, w, run_append_none base t o.type e i size ht hi v n xs hown c, by simpa using hown, ⟨rfl, rfl, rfl, Nat.le_refl _, fun _ _ _ => rfl⟩, .inl rfl⟩
    | some ad =>
      obtain ⟨v', w', hr, h2, h3, _, h5⟩ := run_append_own_at (P := Tryd.prog) w base t o.type e i z size bytes ht hi hz hsize hby hzs hsz v n xs hown ad m c news hl (hnews ad rfl) h1 h63 hbytes hbase
      exact ⟨v', w', hr, h2, h3, h5⟩
  obtain ⟨v', w', hr, h2, h3, h5⟩ := key
  obtain ⟨A', c', rfl, _⟩ := row_slice h2
  unfold Oper.wp execOp
  simp only [ho, resolve, invoke, builtin, Sem.run_bind, Sem.run_pure, Result.andThen_ok, List.map_toArray, List.map_cons, List.map_nil, hs, hx, hr]
  exact h A' c' w' h2 h3 h5

/-- The cells of a row that can be read. -/
theorem Node.In.raw {w : World} {ok : Nat → Prop} {t : Node} {A : Option Addr} {c : Nat} (h : t.In w ok A c) :
    ∃ hs : List Hdr, t.kids.length = hs.length ∧ (A = none → t.kids.length = 0) ∧ (∀ ad, A = some ad → ∀ j u, (valsAll t.kids hs)[j]? = some u → w.cell? (ad.add j) = some u) ∧
      ∀ j (h1 : j < t.kids.length) (h2 : j < hs.length), (t.kids[j]).In w ok hs[j].A hs[j].c := by
  by_cases hk : t.kids.length = 0
  · have hk2 : t.kids = [] := List.length_eq_zero_iff.1 hk
    refine ⟨[], by rw [hk]; rfl, fun _ => hk, fun ad _ j u hu => ?_, fun j h1 => by omega⟩
    rw [hk2] at hu; simp [valsAll] at hu
  · have ha : ∀ j (hj : j < t.kids.length), ∃ hd : Hdr, ∃ b o, A = some ⟨b, o, none⟩ ∧ w.cell? ⟨b, o + j * 4, none⟩ = some (.int .u8 t.kids[j].kind) ∧ w.cell? ⟨b, o + j * 4 + 1, none⟩ = some (.int .i64 t.kids[j].num) ∧
        w.cell? ⟨b, o + j * 4 + 2, none⟩ = some (.string t.kids[j].name) ∧ w.cell? ⟨b, o + j * 4 + 3, none⟩ = some (.slice hd.A t.kids[j].kids.length hd.c) ∧ t.kids[j].In w ok hd.A hd.c := fun j hj => by
      obtain ⟨b, o, A1, c1, h0, h1, h2, h3, h4, h5⟩ := h.at_ j hj
      exact ⟨⟨A1, c1, fun _ => True⟩, b, o, h0, h1, h2, h3, h4, h5⟩
    have hd : Nonempty Hdr := ⟨⟨none, 0, fun _ => True⟩⟩
    have ha2 : ∀ j : Nat, ∃ hd : Hdr, ∀ (hj : j < t.kids.length), ∃ b o, A = some ⟨b, o, none⟩ ∧ w.cell? ⟨b, o + j * 4, none⟩ = some (.int .u8 t.kids[j].kind) ∧ w.cell? ⟨b, o + j * 4 + 1, none⟩ = some (.int .i64 t.kids[j].num) ∧
        w.cell? ⟨b, o + j * 4 + 2, none⟩ = some (.string t.kids[j].name) ∧ w.cell? ⟨b, o + j * 4 + 3, none⟩ = some (.slice hd.A t.kids[j].kids.length hd.c) ∧ t.kids[j].In w ok hd.A hd.c := fun j => by
      by_cases hj : j < t.kids.length
      · obtain ⟨x, hx⟩ := ha j hj
        exact ⟨x, fun _ => hx⟩
      · exact ⟨⟨none, 0, fun _ => True⟩, fun h => absurd h hj⟩
    obtain ⟨f, hf⟩ := Classical.axiomOfChoice ha2
    have hlen : t.kids.length = ((List.range t.kids.length).map f).length := by simp
    refine ⟨(List.range t.kids.length).map f, hlen, fun h0 => ?_, fun ad had j u hu => ?_, fun j h1 h2 => ?_⟩
    · obtain ⟨b, o, h1, _⟩ := hf 0 (by omega)
      rw [h0] at h1; cases h1
    · have hjl : j < t.kids.length * 4 := by
        rw [← valsAll_length hlen]
        exact (List.getElem?_eq_some_iff.1 hu).1
      have hd4 : j / 4 < t.kids.length := by omega
      have hm4 : j % 4 < 4 := Nat.mod_lt _ (by omega)
      have hj : j = j / 4 * 4 + j % 4 := by omega
      obtain ⟨b, o, h0, e0, e1, e2, e3, _⟩ := hf (j / 4) hd4
      rw [h0] at had
      injection had with had
      subst had
      rw [hj, valsAll_at (j / 4) (j % 4) hd4 (by rw [← hlen]; exact hd4) hm4] at hu
      have hadd : (⟨b, o, none⟩ : Addr).add j = ⟨b, o + j / 4 * 4 + j % 4, none⟩ := by
        unfold Addr.add
        split <;> simp <;> omega
      rw [hadd]
      rcases (show j % 4 = 0 ∨ j % 4 = 1 ∨ j % 4 = 2 ∨ j % 4 = 3 by omega) with h | h | h | h <;> rw [h] at hu ⊢ <;> simp [Node.vals] at hu <;> subst hu <;> simp [e0, e1, e2, e3]
    · obtain ⟨b, o, _, _, _, _, _, e⟩ := hf j h1
      simpa using e
end Go.Proofs.YtgjanglonccclaaDoor

/- Rows of nodes that can be read, as they grow. -/
namespace Go.Proofs.YtgjanglonccclaaDoor
open Go.RowKit
set_option linter.unusedVariables false
set_option linter.unusedSimpArgs false

structure InParts (w : World) (X : Nat → Prop) (ks : List Node) (v : Value) (hs : List Hdr) : Prop where
  len : ks.length = hs.length
  row : w.ownsRow 0 24 4 v ks.length (valsAll ks hs)
  kids : ∀ j (h1 : j < ks.length) (h2 : j < hs.length), (ks[j]).In w (fun b => some b ≠ v.ownBlock ∧ ¬ X b) hs[j].A hs[j].c
  mine : ∀ g, v.ownBlock = some g → ¬ X g

theorem InParts.move {w w' : World} {X : Nat → Prop} {ks : List Node} {v : Value} {hs : List Hdr} (p : InParts w X ks v hs) (hb : ∀ b, b < w.heap.size → ¬ X b → w'.heap[b]? = w.heap[b]?) : InParts w' X ks v hs :=
  ⟨p.len, row_of_block p.row (fun g hg => hb g (row_lt p.row hg) (p.mine g hg)), fun j h1 h2 => Node.In.move (fun b hok hl => hb b hl hok.2) (fun b hok _ => hok) _ (p.kids j h1 h2), p.mine⟩
theorem InParts.below {w w' : World} {X : Nat → Prop} {ks : List Node} {v : Value} {hs : List Hdr} (p : InParts w X ks v hs) (hb : Below w.heap.size w w') : InParts w' X ks v hs :=
  p.move (fun b hl _ => hb.block b hl)
theorem InParts.nil {w : World} {X : Nat → Prop} : InParts w X [] (.slice none 0 0) [] :=
  ⟨rfl, ⟨by simp [valsAll], .inl ⟨rfl, rfl⟩⟩, fun j h1 => by simp at h1, fun g hg => by simp [Value.ownBlock] at hg⟩

theorem InParts.snoc {w w2 : World} {X : Nat → Prop} {ks : List Node} {v v2 : Value} {hs : List Hdr} (p : InParts w X ks v hs) {u : Node} {A3 : Option Addr} {c3 : Nat} (hu : u.In w (fun b => some b ≠ v.ownBlock ∧ ¬ X b) A3 c3)
    (hgr : w.grownBy w2 v.ownBlock) (hrow : w2.ownsRow 0 24 4 v2 (ks.length + 1) (valsAll ks hs ++ [.int .u8 u.kind, .int .i64 u.num, .string u.name, .slice A3 u.kids.length c3]))
    (hat : v2.ownBlock = v.ownBlock ∨ v2.ownBlock = some w.heap.size) (hX : ¬ X w.heap.size) : InParts w2 X (ks ++ [u]) v2 (hs ++ [⟨A3, c3, fun _ => True⟩]) := by
  have mv : ∀ {t : Node} {A : Option Addr} {c : Nat}, t.In w (fun b => some b ≠ v.ownBlock ∧ ¬ X b) A c → t.In w2 (fun b => some b ≠ v2.ownBlock ∧ ¬ X b) A c := fun h =>
    Node.In.move (fun b hok hl => grown_block hgr hl hok.1) (fun b hok hl => ⟨by
      rcases hat with e | e
      · rw [e]; exact hok.1
      · rw [e]; intro h2; injection h2 with h2; omega, hok.2⟩) _ h
  refine ⟨by simp [p.len], ?_, fun j h1 h2 => ?_, fun g hg => ?_⟩
  · rw [valsAll_append _ _ p.len, List.length_append]
    exact hrow
  · rcases Nat.lt_or_ge j ks.length with hj | hj
    · have hj2 : j < hs.length := by rw [← p.len]; exact hj
      have := mv (p.kids j hj hj2)
      rw [List.getElem_append_left hj, List.getElem_append_left hj2]
      exact this
    · have hje : j = ks.length := by simp at h1; omega
      subst hje
      have e1 : (ks ++ [u])[ks.length] = u := by simp
      have e2 : (hs ++ [(⟨A3, c3, fun _ => True⟩ : Hdr)])[ks.length] = ⟨A3, c3, fun _ => True⟩ := by
        rw [List.getElem_append_right (by rw [p.len]; exact Nat.le_refl _)]; simp
      rw [e1, e2]
      exact mv hu
  · rcases hat with e | e
    · exact p.mine g (by rw [← e]; exact hg)
    · rw [e] at hg; injection hg with hg; rw [← hg]; exact hX

/-- A row that was read, copied whole. -/
theorem InParts.copied {w w2 : World} {X ok : Nat → Prop} {ks : List Node} {v v2 : Value} {hs : List Hdr} (hlen : ks.length = hs.length) (hk : ∀ j (h1 : j < ks.length) (h2 : j < hs.length), (ks[j]).In w ok hs[j].A hs[j].c) (hX : ∀ b, ok b → ¬ X b) (hv : ∀ b, ok b → some b ≠ v.ownBlock)
    (hgr : w.grownBy w2 v.ownBlock) (hrow : w2.ownsRow 0 24 4 v2 ks.length (valsAll ks hs))
    (hat : v2.ownBlock = v.ownBlock ∨ v2.ownBlock = some w.heap.size) (hX2 : ∀ g, v2.ownBlock = some g → ¬ X g) : InParts w2 X ks v2 hs :=
  ⟨hlen, hrow, fun j h1 h2 => Node.In.move (fun b hok hl => grown_block hgr hl (hv b hok)) (fun b hok hl => ⟨by
      rcases hat with e | e
      · rw [e]; exact hv b hok
      · rw [e]; intro h2; injection h2 with h2; omega, hX b hok⟩) _ (hk j h1 h2), hX2⟩

theorem row_at {w : World} {ks : List Node} {hs : List Hdr} {v : Value} (row : w.ownsRow 0 24 4 v ks.length (valsAll ks hs)) (hlen : ks.length = hs.length) (j : Nat) (h1 : j < ks.length) :
    ∃ (g cap : Nat) (h2 : j < hs.length), v = .slice (some ⟨g, 0, none⟩) ks.length cap ∧ g < w.heap.size ∧ w.cell? ⟨g, j * 4, none⟩ = some (.int .u8 ks[j].kind) ∧ w.cell? ⟨g, j * 4 + 1, none⟩ = some (.int .i64 ks[j].num) ∧
      w.cell? ⟨g, j * 4 + 2, none⟩ = some (.string ks[j].name) ∧ w.cell? ⟨g, j * 4 + 3, none⟩ = some (.slice hs[j].A ks[j].kids.length hs[j].c) := by
  have h2 : j < hs.length := by rw [← hlen]; exact h1
  obtain ⟨g, cap, e, _, _⟩ := row.form (by omega)
  subst e
  have hv : ∀ i, i < 4 → w.cell? ⟨g, j * 4 + i, none⟩ = (ks[j].vals hs[j])[i]? := fun i hi => by
    rw [row.cellAt (j * 4 + i) (by omega), valsAll_at j i h1 h2 hi]
  exact ⟨g, cap, h2, rfl, row_lt row rfl, by have := hv 0 (by omega); simpa [Node.vals] using this, by have := hv 1 (by omega); simpa [Node.vals] using this, by have := hv 2 (by omega); simpa [Node.vals] using this, by have := hv 3 (by omega); simpa [Node.vals] using this⟩

theorem InParts.reads {w : World} {X : Nat → Prop} {t : Node} {A : Option Addr} {c : Nat} {hs : List Hdr} (p : InParts w X t.kids (.slice A t.kids.length c) hs) (hf : t.Fits) (hl : t.kids.length * 56 ≤ 140737488355328) : t.In w (fun b => ¬ X b) A c := by
  rw [Node.In_eq]
  obtain ⟨A0, c0, e0, hc⟩ := row_slice p.row
  injection e0 with e0 e1 e2
  refine ⟨hf, by omega, hl, ?_⟩
  by_cases hk : t.kids = []
  · exact .inl hk
  · right
    obtain ⟨g, cap, _, hA, hg, _⟩ := row_at p.row p.len 0 (List.length_pos_iff.2 hk)
    injection hA with hA
    subst hA
    refine ⟨g, 0, rfl, p.mine g rfl, RowIn.iff.2 fun j hj => ?_⟩
    obtain ⟨g', cap', h2, hA', _, c0, c1, c2, c3⟩ := row_at p.row p.len j hj
    obtain rfl : g' = g := by injection hA' with e; injection e with e; injection e with e; exact e.symm
    rw [Nat.zero_add]
    exact ⟨hs[j].A, hs[j].c, c0, c1, c2, c3, Node.In.move (fun _ _ _ => rfl) (fun x hx _ => hx.2) _ (p.kids j hj h2)⟩
end Go.Proofs.YtgjanglonccclaaDoor

/- The inverse by the kind of statement. No program in sight. -/
namespace Go.Proofs.YtgjanglonccclaaDoor
open Go.RowKit
set_option linter.unusedVariables false
set_option linter.unusedSimpArgs false

theorem plain_kids {t : Node} (h : t.isStmt = true) (hk : t.kind ≠ 52 ∧ t.kind ≠ 53 ∧ t.kind ≠ 54 ∧ t.kind ≠ 55) : ∀ k ∈ t.kids, (k.kind == 57) = false := by
  intro k hkk
  rw [Node.isStmt_eq, Bool.and_eq_true] at h
  have h := h.2
  have go : ∀ ps : List (Node → Bool), shapeB t.kids ps = true → (∀ p ∈ ps, p = Node.isPlace ∨ p = Node.isExpr) → (k.kind == 57) = false := by
    intro ps hs hps
    obtain ⟨p, hp, hpk⟩ := shapeB_mem hs k hkk
    rcases hps p hp with rfl | rfl
    · exact isPlace_kind hpk
    · exact isExpr_kind hpk
  split at h
  · rw [Bool.and_eq_true] at h; exact go _ h.2 (by simp)
  · split at h
    · rw [Bool.and_eq_true] at h; exact go _ h.2 (by simp)
    · split at h
      · rw [Bool.and_eq_true] at h; exact go _ h.2 (by simp)
      · split at h
        · rw [Bool.and_eq_true] at h; exact go _ h.2 (by simp)
        · split at h
          · simp only [Bool.and_eq_true, List.all_eq_true] at h
            exact isVar_kind (h.2.2 k hkk)
          · simp [hk] at h
theorem map_self {l : List Node} (h : ∀ k ∈ l, (k.kind == 57) = false) : l.map invB = l := by
  induction l with
  | nil => rfl
  | cons a l ih =>
    rw [List.map_cons, ih (fun k hk => h k (by simp [hk]))]
    have := h a (by simp)
    simp [invB, this]
theorem inv_plain {t : Node} (h : t.isStmt = true) (hk : t.kind ≠ 52 ∧ t.kind ≠ 53 ∧ t.kind ≠ 54 ∧ t.kind ≠ 55) : t.inv = ⟨invKind t.kind, t.num, t.name, t.kids⟩ := by
  rw [Node.inv_eq, isStmt_kind h, invBlocks_map, map_self (plain_kids h hk)]
  simp [hk]
theorem inv_four {t : Node} (h : t.isStmt = true) (hk : t.kind = 52 ∨ t.kind = 53) : ∃ a b c d, t.kids = [a, b, c, d] ∧ b.isBlock = true ∧ c.isBlock = true ∧ t.inv = ⟨t.kind, t.num, t.name, [d, b.inv, c.inv, a]⟩ := by
  have h4 := isStmt_four h hk
  have hs := h
  rw [Node.isStmt_eq, Bool.and_eq_true] at hs
  have hs := hs.2
  obtain ⟨a, b, c, d, e⟩ : ∃ a b c d, t.kids = [a, b, c, d] := by
    match hl : t.kids with
    | [a, b, c, d] => exact ⟨a, b, c, d, rfl⟩
    | [] | [_] | [_, _] | [_, _, _] | _ :: _ :: _ :: _ :: _ :: _ => rw [hl] at h4; simp at h4
  have hx : a.isExpr = true ∧ b.isBlock = true ∧ c.isBlock = true ∧ d.isExpr = true := by
    rcases hk with hk | hk <;> (simp [hk, e, shapeB] at hs; exact ⟨hs.2.1, hs.2.2.1, hs.2.2.2.1, hs.2.2.2.2⟩)
  refine ⟨a, b, c, d, e, hx.2.1, hx.2.2.1, ?_⟩
  have ea : invB a = a := by simp [invB, isExpr_kind hx.1]
  have ed : invB d = d := by simp [invB, isExpr_kind hx.2.2.2]
  have eb : invB b = b.inv := by simp [invB, isBlock_kind hx.2.1]
  have ec : invB c = c.inv := by simp [invB, isBlock_kind hx.2.2.1]
  rw [Node.inv_eq, isStmt_kind h, invBlocks_map, e]
  have hk2 : invKind t.kind = t.kind := invKind_fixed _ (by omega)
  rw [hk2]
  simp only [List.map_cons, List.map_nil, ea, eb, ec, ed]
  rcases hk with hk | hk <;> simp [hk, swapEnds]
theorem inv_three {t : Node} (h : t.isStmt = true) (hk : t.kind = 54) : ∃ a b c, t.kids = [a, b, c] ∧ b.isBlock = true ∧ t.inv = ⟨t.kind, t.num, t.name, [c, b.inv, a]⟩ := by
  have h4 := isStmt_three h hk
  have hs := h
  rw [Node.isStmt_eq, Bool.and_eq_true] at hs
  have hs := hs.2
  obtain ⟨a, b, c, e⟩ : ∃ a b c, t.kids = [a, b, c] := by
    match hl : t.kids with
    | [a, b, c] => exact ⟨a, b, c, rfl⟩
    | [] | [_] | [_, _] | _ :: _ :: _ :: _ :: _ => rw [hl] at h4; simp at h4
  have hx : a.isExpr = true ∧ b.isBlock = true ∧ c.isExpr = true := by
    simp [hk, e, shapeB] at hs; exact ⟨hs.2.1, hs.2.2.1, hs.2.2.2⟩
  refine ⟨a, b, c, e, hx.2.1, ?_⟩
  have ea : invB a = a := by simp [invB, isExpr_kind hx.1]
  have ec : invB c = c := by simp [invB, isExpr_kind hx.2.2]
  have eb : invB b = b.inv := by simp [invB, isBlock_kind hx.2.1]
  rw [Node.inv_eq, isStmt_kind h, invBlocks_map, e]
  have hk2 : invKind t.kind = t.kind := invKind_fixed _ (by omega)
  rw [hk2]
  simp only [List.map_cons, List.map_nil, ea, eb, ec]
  simp [hk, swapEnds]
theorem inv_one {t : Node} (h : t.isStmt = true) (hk : t.kind = 55) : ∃ a, t.kids = [a] ∧ a.isBlock = true ∧ t.inv = ⟨t.kind, t.num, t.name, [a.inv]⟩ := by
  have hs := h
  rw [Node.isStmt_eq, Bool.and_eq_true] at hs
  have hs := hs.2
  have hsh : shapeB t.kids [Node.isBlock] = true := by simp [hk] at hs; exact hs.2
  have h4 := shapeB_length hsh
  obtain ⟨a, e⟩ : ∃ a, t.kids = [a] := by
    match hl : t.kids with
    | [a] => exact ⟨a, rfl⟩
    | [] | _ :: _ :: _ => rw [hl] at h4; simp at h4
  have hx : a.isBlock = true := by
    rw [e] at hsh; simpa [shapeB] using hsh
  refine ⟨a, e, hx, ?_⟩
  have ea : invB a = a.inv := by simp [invB, isBlock_kind hx]
  rw [Node.inv_eq, isStmt_kind h, invBlocks_map, e]
  have hk2 : invKind t.kind = t.kind := by rw [hk]; decide
  rw [hk2]
  simp only [List.map_cons, List.map_nil, ea]
  simp [hk]
theorem inv_block {t : Node} (h : t.isBlock = true) : t.inv = ⟨t.kind, t.num, t.name, (t.kids.map Node.inv).reverse⟩ := by
  have h57 := isBlock_kind h
  have e : t.kind = 57 := by simpa using h57
  rw [Node.inv_eq, h57, invAll_map]
  have hk2 : invKind t.kind = t.kind := by rw [e]; decide
  rw [hk2]; rfl
end Go.Proofs.YtgjanglonccclaaDoor

/- Contract of the reference's Inverse. -/
namespace Go.Proofs.YtgjanglonccclaaDoor
open Go.RowKit
set_option linter.unusedVariables false
set_option linter.unusedSimpArgs false

def RefInvRet (w : World) (N0 : Nat) (t : Node) (e : Ending) (w' : World) : Prop :=
  ∃ A c, e = .returned (.agg #[.int .u8 t.kind, .int .i64 t.num, .string t.name, .slice A t.kids.length c]) ∧ Below w.heap.size w w' ∧ t.In w' (fun b => b < N0 ∨ w.heap.size ≤ b) A c
def RefInvRuns (t : Node) : Prop := ∀ (A : Option Addr) (c : Nat) (w : World) (N0 : Nat), N0 ≤ w.heap.size → t.In w (fun b => b < N0) A c → Calls Tryd.prog 38 #[.agg #[.int .u8 t.kind, .int .i64 t.num, .string t.name, .slice A t.kids.length c]] w (RefInvRet w N0 t.inv)

/-- What must not lie under a row: the copy's own block, the result's, what was there but did not come in. -/
def XX (N0 H P : Nat) (b : Nat) : Prop := b = P ∨ b = H + 1 ∨ (N0 ≤ b ∧ b < H)
structure RI (w W : World) (N0 : Nat) (t : Node) (A : Option Addr) (c P : Nat) (A2 : Option Addr) (c2 : Nat) : Prop where
  boxes : Boxes w W t A c
  lo : w.heap.size + 2 ≤ P
  out : W.heap[P]? = some (.cells #[.int .u8 t.kind, .int .i64 t.num, .string t.name, .slice A2 t.kids.length c2] 24)
  kids : t.In W (fun b => ¬ XX N0 w.heap.size P b) A2 c2

theorem empty_row (w : World) (q : Nat) (hq : w.heap.size = q) : ((w.alloc (.cells #[] 24)).drew).ownsRow 0 24 4 (.slice (some ⟨q, 0, none⟩) 0 0) 0 [] := by
  subst hq
  exact ⟨rfl, .inr ⟨_, 0, #[], rfl, Nat.zero_le _, heap_alloc_new w _, Nat.le_refl _, by simp [maxLen], rfl, rfl⟩⟩

theorem empty_row2 (w : World) (o : Obj) (q : Nat) (hq : w.heap.size = q) : (((w.alloc (.cells #[] 24)).alloc o).drew).ownsRow 0 24 4 (.slice (some ⟨q, 0, none⟩) 0 0) 0 [] := by
  subst hq
  refine ⟨rfl, .inr ⟨_, 0, #[], rfl, Nat.zero_le _, ?_, Nat.le_refl _, by simp [maxLen], rfl, rfl⟩⟩
  show ((w.alloc (.cells #[] 24)).alloc o).heap[w.heap.size]? = _
  rw [(Go.MapKept.heap_alloc _ _).2 _ (by simp)]
  exact heap_alloc_new w _
theorem new_last (w : World) (o : Obj) (q : Nat) (hq : w.heap.size = q) : ((w.alloc o).drew).heap[q]? = some o := by
  subst hq; exact heap_alloc_new w _
theorem new_first (w : World) (o o2 : Obj) (q : Nat) (hq : w.heap.size = q) : (((w.alloc o).alloc o2).drew).heap[q]? = some o := by
  subst hq
  show ((w.alloc o).alloc o2).heap[w.heap.size]? = _
  rw [(Go.MapKept.heap_alloc _ _).2 _ (by simp)]
  exact heap_alloc_new w _
theorem set4_keep {w : World} {P b : Nat} (h : b ≠ P) (v0 v1 v2 v3 : Value) (i : Nat) : ((((w.setCell ⟨P, 0, none⟩ v0).setCell ⟨P, 1, none⟩ v1).setCell ⟨P, 2, none⟩ v2).setCell ⟨P, 3, none⟩ v3).cell? ⟨b, i, none⟩ = w.cell? ⟨b, i, none⟩ := by
  refine World.cell?_of_block ?_
  rw [set_other h, set_other h, set_other h, set_other h]
theorem set4_blk {w : World} {P : Nat} {a0 a1 a2 a3 : Value} (hp : w.heap[P]? = some (.cells #[a0, a1, a2, a3] 24)) (v0 v1 v2 v3 : Value) :
    ((((w.setCell ⟨P, 0, none⟩ v0).setCell ⟨P, 1, none⟩ v1).setCell ⟨P, 2, none⟩ v2).setCell ⟨P, 3, none⟩ v3).heap[P]? = some (.cells #[v0, v1, v2, v3] 24) := by
  simpa using set_blk (set_blk (set_blk (set_blk hp 0 v0) 1 v1) 2 v2) 3 v3
theorem vals_one : ∀ (ks : List Node) (hs : List Hdr), ∀ u ∈ valsAll ks hs, u.oneCell' = true
  | [], _, u, h => by simp [valsAll] at h
  | _ :: _, [], u, h => by simp [valsAll] at h
  | t :: ts, hd :: hs, u, h => by
    simp only [valsAll, List.mem_append] at h
    rcases h with h | h
    · simp only [Node.vals, List.mem_cons, List.not_mem_nil, or_false] at h
      rcases h with rfl | rfl | rfl | rfl <;> rfl
    · exact vals_one ts hs u h

theorem RI.make {w Wb Wp w2 Wf : World} {N0 : Nat} {t : Node} {A : Option Addr} {c P q : Nat} {A2 : Option Addr} {c2 : Nat} {hs : List Hdr} (B0 : Boxes w Wb t A c) (hWb : Wb.heap.size = w.heap.size + 2) (hp : Below Wb.heap.size Wb Wp) (hN : N0 ≤ w.heap.size)
    (hF : t.Fits) (hcap : t.kids.length * 56 ≤ 140737488355328) (hlen : t.kids.length = hs.length) (hk : ∀ j (h1 : j < t.kids.length) (h2 : j < hs.length), (t.kids[j]).In w (fun b => b < N0) hs[j].A hs[j].c)
    (hrow : w2.ownsRow 0 24 4 (.slice A2 (0 + t.kids.length) c2) (0 + t.kids.length) ([] ++ valsAll t.kids hs)) (hgr : Wp.grownBy w2 (Value.slice (some ⟨q, 0, none⟩) 0 0).ownBlock)
    (hat : (Value.slice A2 (0 + t.kids.length) c2).ownBlock = (Value.slice (some ⟨q, 0, none⟩) 0 0).ownBlock ∨ (Value.slice A2 (0 + t.kids.length) c2).ownBlock = some Wp.heap.size)
    (hq : w.heap.size + 2 ≤ q) (hPg : ∀ g, (Value.slice A2 (0 + t.kids.length) c2).ownBlock = some g → g ≠ P) (hPlo : w.heap.size + 2 ≤ P) (hf : Below (w.heap.size + 2) w2 Wf) (hfb : ∀ b, b < w2.heap.size → b ≠ P → Wf.heap[b]? = w2.heap[b]?) (hout : Wf.heap[P]? = some (.cells #[.int .u8 t.kind, .int .i64 t.num, .string t.name, .slice A2 t.kids.length c2] 24)) :
    RI w Wf N0 t A c P A2 c2 := by
  rw [Nat.zero_add, List.nil_append] at hrow
  rw [Nat.zero_add] at hat hPg
  have hsz := hp.size
  have b1 : Below (w.heap.size + 2) Wb w2 := by
    refine (hp.mono (by omega)).grown hgr (by omega) (fun k hk => ?_)
    have e : q = k := Option.some.inj hk
    omega
  refine ⟨B0.next ((b1.trans hf).mono (by omega)), hPlo, hout, ?_⟩
  have z : InParts w2 (XX N0 w.heap.size P) t.kids (.slice A2 t.kids.length c2) hs := by
    refine InParts.copied (w := Wp) (ok := fun b => b < N0) hlen (fun j h1 h2 => Node.In.below (hk j h1 h2) (B0.below.trans (hp.mono (by omega)))) (fun b hb => ?_) (fun b hb e => ?_) hgr hrow hat (fun g hg => ?_)
    · unfold XX; have : b < N0 := hb; omega
    · injection e with e
      have e : b = q := e
      have : b < N0 := hb; omega
    · have hne := hPg g hg
      rw [hg] at hat
      unfold XX
      rcases hat with e | e
      · injection e with e
        have e : g = q := e
        omega
      · injection e with e
        omega
  exact (z.move (fun b hb hX => hfb b hb (fun e => hX (.inl e)))).reads hF hcap
theorem In_new {w1 : World} {X : Nat → Prop} {u : Node} {hs : List Hdr} (hf : u.Fits) (hl : u.kids.length * 56 ≤ 140737488355328) (hlen : u.kids.length = hs.length) (hk : ∀ j (h1 : j < u.kids.length) (h2 : j < hs.length), (u.kids[j]).In w1 (fun b => ¬ X b) hs[j].A hs[j].c)
    (hX : ¬ X w1.heap.size) {cs : Array Value} (hcs : cs.toList = valsAll u.kids hs) : u.In (w1.alloc (.cells cs 24)) (fun b => ¬ X b) (some ⟨w1.heap.size, 0, none⟩) u.kids.length := by
  have hsz : cs.size = u.kids.length * 4 := by rw [← Array.length_toList, hcs, valsAll_length hlen]
  refine InParts.reads (hs := hs) ⟨hlen, ⟨valsAll_length hlen, .inr ⟨_, u.kids.length, cs, rfl, Nat.zero_le _, heap_alloc_new w1 _, Nat.le_refl _, by simp [maxLen]; omega, hsz, ?_⟩⟩, fun j h1 h2 => ?_, fun g hg => ?_⟩ hf hl
  · rw [hcs]; exact List.take_of_length_le (by rw [valsAll_length hlen]; exact Nat.le_refl _)
  · refine Node.In.move (fun b _ hb => (Go.MapKept.heap_alloc _ _).2 b hb) (fun b hb hlt => ⟨fun e => ?_, hb⟩) _ (hk j h1 h2)
    have : b = w1.heap.size := Option.some.inj e
    omega
  · have : w1.heap.size = g := Option.some.inj hg
    rw [← this]; exact hX
/-- What a call gives back does not lie where it must not. -/
theorem XX_off {N0 H P B b : Nat} (h : b < N0 ∨ B ≤ b) (hN : N0 ≤ H) (hP : H + 2 ≤ P) (hB : P < B) : ¬ XX N0 H P b := by
  unfold XX; omega
theorem set_keep {w : World} {P b : Nat} (h : b ≠ P) (i j : Nat) (v : Value) : (w.setCell ⟨P, i, none⟩ v).cell? ⟨b, j, none⟩ = w.cell? ⟨b, j, none⟩ := World.cell?_of_block (set_other h)
theorem In_base {w : World} {ok : Nat → Prop} {t : Node} {b o : Nat} {c : Nat} (h : t.In w ok (some ⟨b, o, none⟩) c) (hn : t.kids ≠ []) : ok b := by
  rcases (Node.In_eq.1 h).2.2.2 with h | ⟨b', o', e, hb, _⟩
  · exact absurd h hn
  · injection e with e; injection e with e1 e2
    rw [e1]; exact hb
theorem alloc_set {w : World} {b i : Nat} (o : Obj) (v : Value) (h : b < w.heap.size) : (w.setCell ⟨b, i, none⟩ v).alloc o = (w.alloc o).setCell ⟨b, i, none⟩ v := by
  unfold World.setCell World.alloc
  simp only [World.mk.injEq, and_true, true_and]
  apply Array.ext_getElem?
  intro j
  simp only [Array.getElem?_modify, Array.getElem?_push, Array.size_modify]
  by_cases hj : b = j
  · subst hj
    have : b ≠ w.heap.size := by omega
    simp [this]
  · simp [hj]
theorem alloc_set4 {w : World} {b : Nat} (o : Obj) (v0 v1 v2 v3 : Value) (h : b < w.heap.size) :
    ((((w.setCell ⟨b, 0, none⟩ v0).setCell ⟨b, 1, none⟩ v1).setCell ⟨b, 2, none⟩ v2).setCell ⟨b, 3, none⟩ v3).alloc o = ((((w.alloc o).setCell ⟨b, 0, none⟩ v0).setCell ⟨b, 1, none⟩ v1).setCell ⟨b, 2, none⟩ v2).setCell ⟨b, 3, none⟩ v3 := by
  rw [alloc_set, alloc_set, alloc_set, alloc_set] <;> first | exact h | (simp only [World.setCell, Array.size_modify]; exact h)
theorem RI.next {w W W2 : World} {N0 : Nat} {t : Node} {A : Option Addr} {c P : Nat} {A2 : Option Addr} {c2 : Nat} (R : RI w W N0 t A c P A2 c2) (h : Below W.heap.size W W2) : RI w W2 N0 t A c P A2 c2 :=
  ⟨R.boxes.next h, R.lo, by rw [h.block _ (Array.getElem?_eq_some_iff.1 R.out).1]; exact R.out, R.kids.below h⟩
/-- The same children under another kind. -/
theorem In_rekind {w : World} {ok : Nat → Prop} {t u : Node} {A : Option Addr} {c : Nat} (h : t.In w ok A c) (hk : u.kids = t.kids) (hf : u.Fits) : u.In w ok A c := by
  rw [Node.In_eq] at h ⊢
  rw [hk]
  exact ⟨hf, h.2⟩
/-- The result is written and handed back. -/
theorem RI_fin {w W : World} {t u : Node} {A A3 : Option Addr} {c c3 N0 P : Nat} (B : Boxes w W t A c) (hu : u.In W (fun b => ¬ XX N0 w.heap.size P b) A3 c3) (v0 v1 v2 v3 : Value) :
    Below w.heap.size w ((((W.setCell ⟨w.heap.size + 1, 0, none⟩ v0).setCell ⟨w.heap.size + 1, 1, none⟩ v1).setCell ⟨w.heap.size + 1, 2, none⟩ v2).setCell ⟨w.heap.size + 1, 3, none⟩ v3) ∧
    u.In ((((W.setCell ⟨w.heap.size + 1, 0, none⟩ v0).setCell ⟨w.heap.size + 1, 1, none⟩ v1).setCell ⟨w.heap.size + 1, 2, none⟩ v2).setCell ⟨w.heap.size + 1, 3, none⟩ v3) (fun b => b < N0 ∨ w.heap.size ≤ b) A3 c3 := by
  refine ⟨res_below B.below (by omega) _ _ _ _, Node.In.move (fun b hb _ => res_other (fun e => hb (.inr (.inl e)))) (fun b hb _ => ?_) _ hu⟩
  by_cases h : b < N0 ∨ w.heap.size ≤ b
  · exact h
  · exact absurd (show XX N0 w.heap.size P b from .inr (.inr (by omega))) hb
/-- What stands when the copy has been given another kind or other children. -/
theorem RI.set {w W : World} {N0 : Nat} {t : Node} {A : Option Addr} {c P : Nat} {A2 : Option Addr} {c2 : Nat} (R : RI w W N0 t A c P A2 c2) (i : Nat) (v : Value) :
    Boxes w (W.setCell ⟨P, i, none⟩ v) t A c ∧ ∀ {u : Node} {A3 : Option Addr} {c3 : Nat}, u.In W (fun b => ¬ XX N0 w.heap.size P b) A3 c3 → u.In (W.setCell ⟨P, i, none⟩ v) (fun b => ¬ XX N0 w.heap.size P b) A3 c3 := by
  have hlo := R.lo
  refine ⟨⟨Below.setCell (p := ⟨P, i, none⟩) R.boxes.below (by show w.heap.size ≤ P; omega) _, by simp only [World.setCell, Array.size_modify]; exact R.boxes.size, by rw [set_other (by omega)]; exact R.boxes.box, by rw [set_other (by omega)]; exact R.boxes.res⟩, fun hu => ?_⟩
  exact Node.In.move (fun b hb _ => set_other (fun e => hb (.inl e))) (fun b hb _ => hb) _ hu

/-- While the children of a block are gone through, from the last. -/
structure RB (w W : World) (N0 : Nat) (t : Node) (A : Option Addr) (c P : Nat) (A3 : Option Addr) (c3 : Nat) (acc : List Node) (hs : List Hdr) : Prop where
  boxes : Boxes w W t A c
  lo : w.heap.size + 2 ≤ P
  out : W.heap[P]? = some (.cells #[.int .u8 t.kind, .int .i64 t.num, .string t.name, .slice A3 acc.length c3] 24)
  parts : InParts W (XX N0 w.heap.size P) acc (.slice A3 acc.length c3) hs
  lo2 : ∀ g, (Value.slice A3 acc.length c3).ownBlock = some g → w.heap.size + 2 ≤ g
theorem RI.block {w W : World} {N0 : Nat} {t : Node} {A : Option Addr} {c P : Nat} {A2 : Option Addr} {c2 : Nat} (R : RI w W N0 t A c P A2 c2) : RB w (W.setCell ⟨P, 3, none⟩ (.slice none 0 0)) N0 t A c P none 0 [] [] :=
  ⟨(R.set 3 _).1, R.lo, by rw [set_blk R.out]; simp, InParts.nil, fun g hg => by simp [Value.ownBlock] at hg⟩
theorem RB.push {w wr w1 w2 : World} {N0 : Nat} {t : Node} {A : Option Addr} {c P : Nat} {A3 : Option Addr} {c3 : Nat} {acc : List Node} {hs : List Hdr} (R : RB w wr N0 t A c P A3 c3 acc hs) (hN : N0 ≤ w.heap.size) (hbw : Below wr.heap.size wr w1)
    {u : Node} {A4 : Option Addr} {c4 : Nat} (hu : u.In w1 (fun b => b < N0 ∨ wr.heap.size ≤ b) A4 c4) {g cap : Nat}
    (hrow : w2.ownsRow 0 24 4 (.slice (some ⟨g, 0, none⟩) (acc.length + 1) cap) (acc.length + 1) (valsAll acc hs ++ [.int .u8 u.kind, .int .i64 u.num, .string u.name, .slice A4 u.kids.length c4]))
    (hgr : (w1.alloc (.cells #[.int .u8 u.kind, .int .i64 u.num, .string u.name, .slice A4 u.kids.length c4] 24)).grownBy w2 (Value.slice A3 acc.length c3).ownBlock)
    (hat : (Value.slice A3 acc.length c3).ownBlock = some g ∨ g = w1.heap.size + 1) :
    RB w (w2.setCell ⟨P, 3, none⟩ (.slice (some ⟨g, 0, none⟩) (acc.length + 1) cap)) N0 t A c P (some ⟨g, 0, none⟩) cap (acc ++ [u]) (hs ++ [⟨A4, c4, fun _ => True⟩]) := by
  have hP := R.lo
  have hPw : P < wr.heap.size := (Array.getElem?_eq_some_iff.1 R.out).1
  have hsz := hbw.size
  obtain ⟨W, hW⟩ : ∃ W, w1.alloc (.cells #[.int .u8 u.kind, .int .i64 u.num, .string u.name, .slice A4 u.kids.length c4] 24) = W := ⟨_, rfl⟩
  have hWs : W.heap.size = w1.heap.size + 1 := by rw [← hW]; simp
  have hW1 : Below w1.heap.size w1 W := by rw [← hW]; exact ext_alloc (Below.refl _ _) _
  rw [hW] at hgr
  have hbW : Below wr.heap.size wr W := ext_trans hbw hW1
  have B1 := R.boxes.next hbW
  have hgs := hgr.size
  have hPn : some P ≠ (Value.slice A3 acc.length c3).ownBlock := fun e => R.parts.mine P e.symm (.inl rfl)
  have hgl : ∀ x, (Value.slice A3 acc.length c3).ownBlock = some x → x < wr.heap.size := fun x hx => row_lt R.parts.row hx
  have hg2 : ∀ x, x < w.heap.size + 2 → some x ≠ (Value.slice A3 acc.length c3).ownBlock := fun x hx e => by
    have := R.lo2 x e.symm
    omega
  have hz := R.boxes.size
  have keep : ∀ x, x < wr.heap.size → some x ≠ (Value.slice A3 acc.length c3).ownBlock → w2.heap[x]? = wr.heap[x]? := fun x hx hne => by
    rw [hgr.block _ (by omega) hne, hbW.block _ hx]
  have q : InParts w2 (XX N0 w.heap.size P) (acc ++ [u]) (.slice (some ⟨g, 0, none⟩) (acc.length + 1) cap) (hs ++ [⟨A4, c4, fun _ => True⟩]) := by
    refine (R.parts.below hbW).snoc (Node.In.move (fun b _ hb => hW1.block b hb) (fun b hb hlt => ⟨fun e => by
      have h1 := hgl b e.symm
      have h2 := R.lo2 b e.symm
      have h3 : b < N0 ∨ wr.heap.size ≤ b := hb
      omega, XX_off hb hN hP hPw⟩) _ hu) hgr hrow (by
      rcases hat with h | h
      · exact .inl h.symm
      · exact .inr (by rw [h, ← hWs]; rfl)) (XX_off (.inr (Nat.le_refl _)) hN hP (by omega))
  refine ⟨⟨?_, ?_, ?_, ?_⟩, R.lo, ?_, ?_, ?_⟩
  · refine Below.setCell (p := ⟨P, 3, none⟩) (B1.below.grown hgr (by omega) (fun x hx => ?_)) (by show w.heap.size ≤ P; omega) _
    have := R.lo2 x hx
    omega
  · simp only [World.setCell, Array.size_modify]; omega
  · rw [set_other (by omega), keep _ (by omega) (hg2 _ (by omega))]; exact R.boxes.box
  · rw [set_other (by omega), keep _ (by omega) (hg2 _ (by omega))]; exact R.boxes.res
  · have h := R.out
    rw [← keep P hPw hPn] at h
    rw [set_blk h]; simp
  · rw [List.length_append, List.length_singleton]
    exact q.move (fun b _ hX => set_other (fun e => hX (.inl e)))
  · intro x hx
    have hx : g = x := Option.some.inj hx
    subst hx
    rcases hat with h | h
    · exact R.lo2 g h
    · omega
theorem RB.after {w wr w1 w2 : World} {N0 : Nat} {t : Node} {A : Option Addr} {c P : Nat} {A3 : Option Addr} {c3 : Nat} {acc : List Node} {hs : List Hdr} {o : Obj} (R : RB w wr N0 t A c P A3 c3 acc hs) (hbw : Below wr.heap.size wr w1)
    (hgr : (w1.alloc o).grownBy w2 (Value.slice A3 acc.length c3).ownBlock) : w2.heap[P]? = some (.cells #[.int .u8 t.kind, .int .i64 t.num, .string t.name, .slice A3 acc.length c3] 24) := by
  have hPw : P < wr.heap.size := (Array.getElem?_eq_some_iff.1 R.out).1
  have hsz := hbw.size
  have hPn : some P ≠ (Value.slice A3 acc.length c3).ownBlock := fun e => R.parts.mine P e.symm (.inl rfl)
  rw [block_after hgr (x := .cells #[.int .u8 t.kind, .int .i64 t.num, .string t.name, .slice A3 acc.length c3] 24) (by rw [hbw.block _ hPw]; exact R.out) hPn]

set_option maxHeartbeats 4000000 in
set_option maxRecDepth 100000 in
theorem refInv_step (t : Node) (ht : t.isStmt = true ∨ t.isBlock = true) (ih : ∀ k ∈ t.kids, (k.isStmt = true ∨ k.isBlock = true) → RefInvRuns k) : RefInvRuns t := by
  intro A c w N0 hN h
  have B0 := Hd.mk (Boxes.start w t A c)
  obtain ⟨hs, hlen, hnone, hnews, hk⟩ := h.raw
  have hl := h.lenZ
  have HMX := Hd.mk (show t.kids.length ≤ maxLen by simp [maxLen]; omega)
  have HN := Hd.mk (fun (W : World) (hb : Below w.heap.size w W) ad (had : A = some ad) j u (hu : (valsAll t.kids hs)[j]? = some u) => show W.cell? (ad.add j) = some u by
    have := hnews ad had j u hu
    have hlt := World.block_lt_of_cell? _ _ this
    rw [hb.cell hlt]; exact this)
  have HK := Hd.mk hk
  have HF := Hd.mk (And.intro h.fits h.cap)
  have HNO := Hd.mk hnone
  have HVL := Hd.mk (valsAll_length hlen)
  have HLEN := Hd.mk hlen
  have H1C : Hd (∀ u ∈ valsAll t.kids hs, u.oneCell' = true) := ⟨vals_one _ _⟩
  obtain ⟨i0, hi, hz0, hz1, hz2⟩ := info_parts infoNode
  have IH := Hd.mk ih
  have HH := Hd.mk h
  have HT := Hd.mk ht
  clear hnews hk hlen hnone h ih ht
  go_enter Tryd.func38, Tryd.ntmps38
  go_wp2_with fail
  go_cut [3] (fun v3 wx => ∃ (P : Nat) (A2 : Option Addr) (c2 : Nat), v3 = .pointer (some ⟨P, 0, none⟩) ∧ RI w wx N0 t A c P A2 c2)
  case first =>
    go_region_held3 (fun W' => W'.cell? ⟨w.heap.size, 0, none⟩ = some (.int .u8 t.kind) ∧ W'.cell? ⟨w.heap.size, 1, none⟩ = some (.int .i64 t.num) ∧ W'.cell? ⟨w.heap.size, 2, none⟩ = some (.string t.name) ∧ W'.cell? ⟨w.heap.size, 3, none⟩ = some (.slice A t.kids.length c)) (first | go_keep | (refine ⟨?_, ?_, ?_, ?_⟩ <;> first | exact (set4_keep (by omega) _ _ _ _ _).trans x0 | exact (set4_keep (by omega) _ _ _ _ _).trans x1 | exact (set4_keep (by omega) _ _ _ _ _).trans x2 | exact (set4_keep (by omega) _ _ _ _ _).trans x3)) (first
      | (refine step_append_src (by rfl) _ _ _ (by rfl) 0 24 i0 _ 4 56 Tryd.underlying22 hi hz0 hz1 hz2 rfl (by omega) (.slice (some ⟨w.heap.size + 1 + 1, 0, none⟩) 0 0) 0 [] (by rfl) (empty_row _ _ (by simp)) A t.kids.length c (valsAll t.kids hs) (by rfl) HVL.out HNO.out (HN.out _ ((ext_alloc B0.out.below _).drew)) H1C.out (by rw [Nat.zero_add]; exact HMX.out) (by omega) (Nat.zero_le _) ?_; intro A2 c2 w2 hrow hgr hat; have hb : w2.heap[w.heap.size]? = some (.cells #[.int .u8 t.kind, .int .i64 t.num, .string t.name, .slice A t.kids.length c] 24) := (hgr.block _ (by simp <;> omega) (by simp [Value.ownBlock] <;> omega)).trans (B0.out.next ((ext_alloc (Below.refl _ _) _).drew)).box; obtain ⟨x0, x1, x2, x3⟩ := four_cells hb; have hltw := World.block_lt_of_cell? _ _ x0; have HBX := Hd.mk hb; clear hb)
      | (refine step_append_src (by rfl) _ _ _ (by rfl) 0 24 i0 _ 4 56 Tryd.underlying22 hi hz0 hz1 hz2 rfl (by omega) (.slice (some ⟨w.heap.size + 1 + 1, 0, none⟩) 0 0) 0 [] (by rfl) (empty_row2 _ _ _ (by simp)) A t.kids.length c (valsAll t.kids hs) (by rfl) HVL.out HNO.out (HN.out _ ((ext_alloc (ext_alloc B0.out.below _) _).drew)) H1C.out (by rw [Nat.zero_add]; exact HMX.out) (by omega) (Nat.zero_le _) ?_; intro A2 c2 w2 hrow hgr hat; have hb : w2.heap[w.heap.size]? = some (.cells #[.int .u8 t.kind, .int .i64 t.num, .string t.name, .slice A t.kids.length c] 24) := (hgr.block _ (by simp <;> omega) (by simp [Value.ownBlock] <;> omega)).trans (B0.out.next ((ext_alloc (ext_alloc (Below.refl _ _) _) _).drew)).box; obtain ⟨x0, x1, x2, x3⟩ := four_cells hb; have hltw := World.block_lt_of_cell? _ _ x0; have HBX := Hd.mk hb; clear hb; have hp : w2.heap[w.heap.size + 1 + 1 + 1]? = some (.cells #[.int .u8 0, .int .i64 0, .string ⟨#[]⟩, .slice none 0 0] 24) := (by rw [hgr.block _ (by simp <;> omega) (by simp [Value.ownBlock] <;> omega)]; exact new_last _ _ _ (by simp)); obtain ⟨p0, p1, p2, p3⟩ := four_cells hp; have f0 := blk_free hp 0; have f1 := blk_free hp 1; have f2 := blk_free hp 2; have f3 := blk_free hp 3; have HP := Hd.mk hp; clear hp)
      | (refine step_append_src (by rfl) _ _ _ (by rfl) 0 24 i0 _ 4 56 Tryd.underlying22 hi hz0 hz1 hz2 rfl (by omega) (.slice (some ⟨w.heap.size + 1 + 1 + 1, 0, none⟩) 0 0) 0 [] (by rfl) (empty_row _ _ (by simp)) A t.kids.length c (valsAll t.kids hs) (by rfl) HVL.out HNO.out (HN.out _ ((ext_alloc (ext_alloc B0.out.below _) _).drew)) H1C.out (by rw [Nat.zero_add]; exact HMX.out) (by omega) (Nat.zero_le _) ?_; intro A2 c2 w2 hrow hgr hat; have hb : w2.heap[w.heap.size]? = some (.cells #[.int .u8 t.kind, .int .i64 t.num, .string t.name, .slice A t.kids.length c] 24) := (hgr.block _ (by simp <;> omega) (by simp [Value.ownBlock] <;> omega)).trans (B0.out.next ((ext_alloc (ext_alloc (Below.refl _ _) _) _).drew)).box; obtain ⟨x0, x1, x2, x3⟩ := four_cells hb; have hltw := World.block_lt_of_cell? _ _ x0; have HBX := Hd.mk hb; clear hb; have hp : w2.heap[w.heap.size + 1 + 1]? = some (.cells #[.int .u8 0, .int .i64 0, .string ⟨#[]⟩, .slice none 0 0] 24) := (by rw [hgr.block _ (by simp <;> omega) (by simp [Value.ownBlock] <;> omega)]; exact new_first _ _ _ _ (by simp)); obtain ⟨p0, p1, p2, p3⟩ := four_cells hp; have f0 := blk_free hp 0; have f1 := blk_free hp 1; have f2 := blk_free hp 2; have f3 := blk_free hp 3; have HP := Hd.mk hp; clear hp))
    all_goals
      go_wp2_with fail
      go_meet
    · have hs1 := hgr.size
      refine ⟨_, A2, c2, rfl, RI.make B0.out (by simp) (ext_alloc (Below.refl _ _) _).drew hN HF.out.1 HF.out.2 HLEN.out HK.out hrow hgr hat (by omega) (fun g hg => by have := row_lt hrow hg; omega) (by simp at hs1; omega) (ext_alloc (Below.refl _ _) _ |>.mono (by simp at hs1; omega)) (fun b hb _ => (Go.MapKept.heap_alloc _ _).2 b hb) (heap_alloc_new w2 _)⟩
    · refine ⟨_, A2, c2, rfl, RI.make B0.out (by simp) (ext_alloc (ext_alloc (Below.refl _ _) _) _).drew hN HF.out.1 HF.out.2 HLEN.out HK.out hrow hgr hat (by omega) (fun g hg => ?_) (by omega) (res_below (Below.refl _ _) (by omega) _ _ _ _) (fun b _ hb => res_other hb) (set4_blk HP.out _ _ _ _)⟩
      rw [hg] at hat
      rcases hat with e | e
      · have : g = w.heap.size + 1 + 1 := Option.some.inj e
        omega
      · have := Option.some.inj e
        simp at this; omega
    · refine ⟨_, A2, c2, rfl, RI.make B0.out (by simp) (ext_alloc (ext_alloc (Below.refl _ _) _) _).drew hN HF.out.1 HF.out.2 HLEN.out HK.out hrow hgr hat (by omega) (fun g hg => ?_) (by omega) (res_below (Below.refl _ _) (by omega) _ _ _ _) (fun b _ hb => res_other hb) (set4_blk HP.out _ _ _ _)⟩
      rw [hg] at hat
      rcases hat with e | e
      · have : g = w.heap.size + 1 + 1 + 1 := Option.some.inj e
        omega
      · have := Option.some.inj e
        simp at this; omega
  case rest =>
    obtain ⟨P, A2, c2, rfl, R⟩ := hcut
    obtain ⟨⟨x0, x1, x2, x3⟩, ⟨y0, y1, y2, y3⟩, ⟨f0, f1, f2, f3⟩, hz⟩ := R.boxes.facts
    obtain ⟨p0, p1, p2, p3⟩ := four_cells R.out
    have g0 := blk_free R.out 0
    have g3 := blk_free R.out 3
    have hP := R.lo
    have HR := Hd.mk R
    have q : ∀ m : Int, t.kind ≠ m → (t.kind == m) = false := fun m h => by simpa using h
    clear R
    rcases HT.out with hst | hbl
    · by_cases hpl : t.kind ≠ 52 ∧ t.kind ≠ 53 ∧ t.kind ≠ 54 ∧ t.kind ≠ 55
      · have h57 := isStmt_kind hst
        have HI := Hd.mk (inv_plain hst hpl)
        have q2 := q 52 (by omega)
        have q3 := q 53 (by omega)
        have q4 := q 54 (by omega)
        have q5 := q 55 (by omega)
        have HFI : Hd (⟨invKind t.kind, t.num, t.name, t.kids⟩ : Node).Fits := ⟨by have hr := invKind_range HF.out.1.kind0 HF.out.1.kind1; exact ⟨hr.1, hr.2, HF.out.1.num0, HF.out.1.num1, HF.out.1.name⟩⟩
        by_cases hc : t.kind = 50 ∨ t.kind = 51
        · rcases hc with hc | hc
          · have r0 : (t.kind == 50) = true := by simp [hc]
            rw [show invKind t.kind = 51 by rw [hc]; decide] at HI HFI
            clear hst hpl hc
            go_wp2_with fail
            have hset := HR.out.set 0 (.int .u8 51)
            have hfin := RI_fin hset.1 (hset.2 (In_rekind (u := ⟨51, t.num, t.name, t.kids⟩) HR.out.kids rfl HFI.out)) (.int .u8 51) (.int .i64 t.num) (.string t.name) (.slice A2 t.kids.length c2)
            refine bodyPost_ret (v := .agg #[.int .u8 51, .int .i64 t.num, .string t.name, .slice A2 t.kids.length c2]) ?_ rfl ⟨A2, c2, ?_, hfin.1, ?_⟩
            · have hcc := res_cells (u0 := .int .u8 51) (u1 := .int .i64 t.num) (u2 := .string t.name) (u3 := .slice A2 t.kids.length c2) (hset.1).res
              simp [results, Tryd.results38, go_sem, hcc]
            · rw [HI.out]
            · rw [HI.out]; exact hfin.2
          · have r0 : (t.kind == 50) = false := by simp [hc]
            have r1 : (t.kind == 51) = true := by simp [hc]
            rw [show invKind t.kind = 50 by rw [hc]; decide] at HI HFI
            clear hst hpl hc
            go_wp2_with fail
            have hset := HR.out.set 0 (.int .u8 50)
            have hfin := RI_fin hset.1 (hset.2 (In_rekind (u := ⟨50, t.num, t.name, t.kids⟩) HR.out.kids rfl HFI.out)) (.int .u8 50) (.int .i64 t.num) (.string t.name) (.slice A2 t.kids.length c2)
            refine bodyPost_ret (v := .agg #[.int .u8 50, .int .i64 t.num, .string t.name, .slice A2 t.kids.length c2]) ?_ rfl ⟨A2, c2, ?_, hfin.1, ?_⟩
            · have hcc := res_cells (u0 := .int .u8 50) (u1 := .int .i64 t.num) (u2 := .string t.name) (u3 := .slice A2 t.kids.length c2) (hset.1).res
              simp [results, Tryd.results38, go_sem, hcc]
            · rw [HI.out]
            · rw [HI.out]; exact hfin.2
        · have r0 := q 50 (by omega)
          have r1 := q 51 (by omega)
          have HV := Hd.mk (fun W => refKind_any t.kind W)
          by_cases hr : 40 ≤ t.kind ∧ t.kind ≤ 49
          · have hne : invKind t.kind ≠ 0 := by rw [invKind_eq]; repeat' split <;> omega
            have e : refKind t.kind = invKind t.kind := by simp [refKind, hr]
            rw [e] at HV
            generalize invKind t.kind = k2 at hne HV HI HFI
            have hn : (k2 != 0) = true := by simpa using hne
            have hn2 : (k2 == 0) = false := by simpa using hne
            clear hst hpl hc hr e
            go_wp2_with (go_at_call 58; refine (HV.out _).mono ?_; rintro e w1 ⟨rfl, hb1⟩; have HR1 := Hd.mk (HR.out.next hb1); obtain ⟨⟨a0, a1, a2, a3⟩, ⟨b0, b1, b2, b3⟩, ⟨d0, d1, d2, d3⟩, hz1⟩ := HR1.out.boxes.facts; obtain ⟨s0, s1, s2, s3⟩ := four_cells HR1.out.out; have t0 := blk_free HR1.out.out 0)
            have hset := HR1.out.set 0 (.int .u8 k2)
            have hfin := RI_fin hset.1 (hset.2 (In_rekind (u := ⟨k2, t.num, t.name, t.kids⟩) HR1.out.kids rfl HFI.out)) (.int .u8 k2) (.int .i64 t.num) (.string t.name) (.slice A2 t.kids.length c2)
            refine bodyPost_ret (v := .agg #[.int .u8 k2, .int .i64 t.num, .string t.name, .slice A2 t.kids.length c2]) ?_ rfl ⟨A2, c2, ?_, hfin.1, ?_⟩
            · have hcc := res_cells (u0 := .int .u8 k2) (u1 := .int .i64 t.num) (u2 := .string t.name) (u3 := .slice A2 t.kids.length c2) hset.1.res
              simp [results, Tryd.results38, go_sem, hcc]
            · rw [HI.out]
            · rw [HI.out]; exact hfin.2
          · have e : refKind t.kind = 0 := by simp only [refKind, hr, if_false]
            have e2 : invKind t.kind = t.kind := by
              rw [invKind_eq]
              repeat (rw [if_neg (by omega)])
            rw [e] at HV
            rw [e2] at HI HFI
            clear hst hpl hc hr e e2
            go_wp2_with (go_at_call 58; refine (HV.out _).mono ?_; rintro e w1 ⟨rfl, hb1⟩; have HR1 := Hd.mk (HR.out.next hb1); obtain ⟨⟨a0, a1, a2, a3⟩, ⟨b0, b1, b2, b3⟩, ⟨d0, d1, d2, d3⟩, hz1⟩ := HR1.out.boxes.facts; obtain ⟨s0, s1, s2, s3⟩ := four_cells HR1.out.out; have t0 := blk_free HR1.out.out 0)
            have hfin := RI_fin HR1.out.boxes (In_rekind (u := ⟨t.kind, t.num, t.name, t.kids⟩) HR1.out.kids rfl HFI.out) (.int .u8 t.kind) (.int .i64 t.num) (.string t.name) (.slice A2 t.kids.length c2)
            refine bodyPost_ret (v := .agg #[.int .u8 t.kind, .int .i64 t.num, .string t.name, .slice A2 t.kids.length c2]) ?_ rfl ⟨A2, c2, ?_, hfin.1, ?_⟩
            · have hcc := res_cells (u0 := .int .u8 t.kind) (u1 := .int .i64 t.num) (u2 := .string t.name) (u3 := .slice A2 t.kids.length c2) (HR1.out.boxes).res
              simp [results, Tryd.results38, go_sem, hcc]
            · rw [HI.out]
            · rw [HI.out]; exact hfin.2
      · by_cases h5 : t.kind = 55
        · obtain ⟨a, hka, hba, hinv⟩ := inv_one hst h5
          have q7 := q 57 (by omega)
          have q2 := q 52 (by omega)
          have q3 := q 53 (by omega)
          have q4 := q 54 (by omega)
          have q5 : (t.kind == 55) = true := by simp [h5]
          have HI := Hd.mk hinv
          have HIa := Hd.mk (IH.out a (by simp [hka]) (.inr hba))
          obtain ⟨b, o, A1, c1, rfl, e0, e1, e2, e3, h4⟩ := (HH.out.below HR.out.boxes.below).at_ 0 (by simp [hka])
          simp only [hka, List.getElem_cons_zero, Nat.zero_mul, Nat.add_zero] at e0 e1 e2 e3 h4
          have H4 := Hd.mk h4
          have hlt : (0 : Int) < (t.kids.length : Int) := by simp [hka]
          have HKA := Hd.mk hka
          have hNc : N0 ≤ wc.heap.size := by have := HR.out.boxes.size; omega
          have hPw : P < wc.heap.size := (Array.getElem?_eq_some_iff.1 HR.out.out).1
          clear hst hpl h4 hka hinv h5
          go_wp2_with (go_at_call 38; refine (HIa.out A1 c1 _ N0 hNc H4.out).mono ?_; rintro e w1 ⟨A3, c3, rfl, hb1, hi3⟩; have HR1 := Hd.mk (HR.out.next hb1); obtain ⟨⟨a0, a1, a2, a3⟩, ⟨b0, b1, b2, b3⟩, ⟨d0, d1, d2, d3⟩, hz1⟩ := HR1.out.boxes.facts; obtain ⟨s0, s1, s2, s3⟩ := four_cells HR1.out.out; have t3 := blk_free HR1.out.out 3; have HI3 := Hd.mk hi3; have hPw1 : P < w1.heap.size := Nat.lt_of_lt_of_le hPw hb1.size; clear hi3)
          have HI4 := HR1.out.next (ext_alloc (Below.refl _ _) (.cells #[.int .u8 a.inv.kind, .int .i64 a.inv.num, .string a.inv.name, .slice A3 a.inv.kids.length c3] 24))
          have hset := HI4.set 3 (.slice (some ⟨w1.heap.size, 0, none⟩) 1 1)
          have hnew : (⟨t.kind, t.num, t.name, [a.inv]⟩ : Node).In (w1.alloc (.cells #[.int .u8 a.inv.kind, .int .i64 a.inv.num, .string a.inv.name, .slice A3 a.inv.kids.length c3] 24)) (fun b => ¬ XX N0 w.heap.size P b) (some ⟨w1.heap.size, 0, none⟩) 1 :=
            In_new (u := ⟨t.kind, t.num, t.name, [a.inv]⟩) (hs := [⟨A3, c3, fun _ => True⟩]) ⟨HF.out.1.kind0, HF.out.1.kind1, HF.out.1.num0, HF.out.1.num1, HF.out.1.name⟩ (by simp) rfl (fun j h1 h2 => by
              obtain rfl : j = 0 := by simp at h1; omega
              exact Node.In.move (fun _ _ _ => rfl) (fun b hb _ => XX_off hb hN hP hPw) _ HI3.out) (XX_off (.inr (Nat.le_refl _)) hN hP (Nat.lt_of_lt_of_le hPw hb1.size)) rfl
          rw [alloc_set4 _ _ _ _ _ (by simp only [World.setCell, Array.size_modify]; omega), alloc_set _ _ hPw1]
          have hfin := RI_fin hset.1 (hset.2 hnew) (.int .u8 t.kind) (.int .i64 t.num) (.string t.name) (.slice (some ⟨w1.heap.size, 0, none⟩) 1 1)
          refine bodyPost_ret (v := .agg #[.int .u8 t.kind, .int .i64 t.num, .string t.name, .slice (some ⟨w1.heap.size, 0, none⟩) 1 1]) ?_ rfl ⟨some ⟨w1.heap.size, 0, none⟩, 1, ?_, hfin.1, ?_⟩
          · have hcc := res_cells (u0 := .int .u8 t.kind) (u1 := .int .i64 t.num) (u2 := .string t.name) (u3 := .slice (some ⟨w1.heap.size, 0, none⟩) 1 1) hset.1.res
            simp [results, Tryd.results38, go_sem, hcc]
          · rw [HI.out]; rfl
          · rw [HI.out]; exact hfin.2
        · by_cases h4 : t.kind = 52 ∨ t.kind = 53
          · obtain ⟨ka, kb, kc, kd, hka, hbb, hbc, hinv⟩ := inv_four hst h4
            have q7 := q 57 (by omega)
            obtain ⟨b, o, hA⟩ : ∃ b o, A = some ⟨b, o, none⟩ := by
              obtain ⟨b, o, _, _, hA, _⟩ := (HH.out.below HR.out.boxes.below).at_ 0 (by simp [hka])
              exact ⟨b, o, hA⟩
            obtain ⟨b0, o0, Ak0, ck0, hA0, e00, e01, e02, e03, h0⟩ := (HH.out.below HR.out.boxes.below).at_ 0 (by simp [hka])
            obtain ⟨rfl, rfl⟩ : b = b0 ∧ o = o0 := by rw [hA0] at hA; injection hA with hA; injection hA with h1 h2; exact ⟨h1.symm, h2.symm⟩
            simp only [hka, List.getElem_cons_zero, List.getElem_cons_succ, Nat.zero_mul, Nat.one_mul, Nat.add_zero, Nat.reduceMul] at e00 e01 e02 e03 h0
            have H0 := Hd.mk h0
            obtain ⟨b1, o1, Ak1, ck1, hA1, e10, e11, e12, e13, h1⟩ := (HH.out.below HR.out.boxes.below).at_ 1 (by simp [hka])
            obtain ⟨rfl, rfl⟩ : b = b1 ∧ o = o1 := by rw [hA1] at hA; injection hA with hA; injection hA with h1 h2; exact ⟨h1.symm, h2.symm⟩
            simp only [hka, List.getElem_cons_zero, List.getElem_cons_succ, Nat.zero_mul, Nat.one_mul, Nat.add_zero, Nat.reduceMul] at e10 e11 e12 e13 h1
            have H1 := Hd.mk h1
            obtain ⟨b2, o2, Ak2, ck2, hA2, e20, e21, e22, e23, h2⟩ := (HH.out.below HR.out.boxes.below).at_ 2 (by simp [hka])
            obtain ⟨rfl, rfl⟩ : b = b2 ∧ o = o2 := by rw [hA2] at hA; injection hA with hA; injection hA with h1 h2; exact ⟨h1.symm, h2.symm⟩
            simp only [hka, List.getElem_cons_zero, List.getElem_cons_succ, Nat.zero_mul, Nat.one_mul, Nat.add_zero, Nat.reduceMul] at e20 e21 e22 e23 h2
            have H2 := Hd.mk h2
            obtain ⟨b3, o3, Ak3, ck3, hA3, e30, e31, e32, e33, h3⟩ := (HH.out.below HR.out.boxes.below).at_ 3 (by simp [hka])
            obtain ⟨rfl, rfl⟩ : b = b3 ∧ o = o3 := by rw [hA3] at hA; injection hA with hA; injection hA with h1 h2; exact ⟨h1.symm, h2.symm⟩
            simp only [hka, List.getElem_cons_zero, List.getElem_cons_succ, Nat.zero_mul, Nat.one_mul, Nat.add_zero, Nat.reduceMul] at e30 e31 e32 e33 h3
            have H3 := Hd.mk h3
            clear hA0 hA1 hA2 hA3
            subst hA
            have HI := Hd.mk hinv
            have hlen4 : t.kids.length = 4 := by simp [hka]
            have HIb := Hd.mk (IH.out kb (by simp [hka]) (.inr hbb))
            have HIc := Hd.mk (IH.out kc (by simp [hka]) (.inr hbc))
            have z0 : (0 : Int) < (t.kids.length : Int) := by simp [hka]
            have z4 : 0 < t.kids.length := by simp [hka]
            have z5 : ¬ t.kids = [] := by simp [hka]
            have z6 : ¬ t.kids.length = 0 := by simp [hka]
            have z1 : (1 : Int) < (t.kids.length : Int) := by simp [hka]
            have z2 : (2 : Int) < (t.kids.length : Int) := by simp [hka]
            have z3 : (3 : Int) < (t.kids.length : Int) := by simp [hka]
            have HKA := Hd.mk hka
            have hNc : N0 ≤ wc.heap.size := by have := HR.out.boxes.size; omega
            have hPw : P < wc.heap.size := (Array.getElem?_eq_some_iff.1 HR.out.out).1
            have HB := World.block_lt_of_cell? _ _ e00
            clear hst hpl h0 h1 h2 h3 hka hinv h5 hlen4
            have HQ : (t.kind == 52) = true ∨ ((t.kind == 52) = false ∧ (t.kind == 53) = true) := by
              rcases h4 with h4 | h4 <;> simp [h4]
            clear h4
            have HX3 := World.block_lt_of_cell? _ _ x3
            have HS : Hd (∀ W, Below wc.heap.size wc W → W.cell? ⟨w.heap.size, 3, none⟩ = some (.slice (some ⟨b, o, none⟩) t.kids.length c) ∧ (W.cell? ⟨b, o, none⟩ = some (.int .u8 ka.kind) ∧ W.cell? ⟨b, o + 1, none⟩ = some (.int .i64 ka.num) ∧ W.cell? ⟨b, o + 2, none⟩ = some (.string ka.name) ∧ W.cell? ⟨b, o + 3, none⟩ = some (.slice Ak0 ka.kids.length ck0)) ∧ (W.cell? ⟨b, o + 4, none⟩ = some (.int .u8 kb.kind) ∧ W.cell? ⟨b, o + 4 + 1, none⟩ = some (.int .i64 kb.num) ∧ W.cell? ⟨b, o + 4 + 2, none⟩ = some (.string kb.name) ∧ W.cell? ⟨b, o + 4 + 3, none⟩ = some (.slice Ak1 kb.kids.length ck1)) ∧ (W.cell? ⟨b, o + 8, none⟩ = some (.int .u8 kc.kind) ∧ W.cell? ⟨b, o + 8 + 1, none⟩ = some (.int .i64 kc.num) ∧ W.cell? ⟨b, o + 8 + 2, none⟩ = some (.string kc.name) ∧ W.cell? ⟨b, o + 8 + 3, none⟩ = some (.slice Ak2 kc.kids.length ck2)) ∧ (W.cell? ⟨b, o + 12, none⟩ = some (.int .u8 kd.kind) ∧ W.cell? ⟨b, o + 12 + 1, none⟩ = some (.int .i64 kd.num) ∧ W.cell? ⟨b, o + 12 + 2, none⟩ = some (.string kd.name) ∧ W.cell? ⟨b, o + 12 + 3, none⟩ = some (.slice Ak3 kd.kids.length ck3))) := ⟨fun W hb => ⟨(hb.cell (p := ⟨w.heap.size, 3, none⟩) HX3).trans x3, ⟨(hb.cell (p := ⟨b, o, none⟩) HB).trans e00, (hb.cell (p := ⟨b, o + 1, none⟩) HB).trans e01, (hb.cell (p := ⟨b, o + 2, none⟩) HB).trans e02, (hb.cell (p := ⟨b, o + 3, none⟩) HB).trans e03⟩, ⟨(hb.cell (p := ⟨b, o + 4, none⟩) HB).trans e10, (hb.cell (p := ⟨b, o + 4 + 1, none⟩) HB).trans e11, (hb.cell (p := ⟨b, o + 4 + 2, none⟩) HB).trans e12, (hb.cell (p := ⟨b, o + 4 + 3, none⟩) HB).trans e13⟩, ⟨(hb.cell (p := ⟨b, o + 8, none⟩) HB).trans e20, (hb.cell (p := ⟨b, o + 8 + 1, none⟩) HB).trans e21, (hb.cell (p := ⟨b, o + 8 + 2, none⟩) HB).trans e22, (hb.cell (p := ⟨b, o + 8 + 3, none⟩) HB).trans e23⟩, ⟨(hb.cell (p := ⟨b, o + 12, none⟩) HB).trans e30, (hb.cell (p := ⟨b, o + 12 + 1, none⟩) HB).trans e31, (hb.cell (p := ⟨b, o + 12 + 2, none⟩) HB).trans e32, (hb.cell (p := ⟨b, o + 12 + 3, none⟩) HB).trans e33⟩⟩⟩
            have hbN : b < N0 := In_base (ok := fun x => x < N0) (b := b) HH.out (by rw [HKA.out]; simp)
            have hPb : P ≠ b := by omega
            have hPH : P ≠ w.heap.size := by omega
            have HSP : Hd (∀ (W : World) (v : Value), (W.cell? ⟨w.heap.size, 3, none⟩ = some (.slice (some ⟨b, o, none⟩) t.kids.length c) ∧ (W.cell? ⟨b, o, none⟩ = some (.int .u8 ka.kind) ∧ W.cell? ⟨b, o + 1, none⟩ = some (.int .i64 ka.num) ∧ W.cell? ⟨b, o + 2, none⟩ = some (.string ka.name) ∧ W.cell? ⟨b, o + 3, none⟩ = some (.slice Ak0 ka.kids.length ck0)) ∧ (W.cell? ⟨b, o + 4, none⟩ = some (.int .u8 kb.kind) ∧ W.cell? ⟨b, o + 4 + 1, none⟩ = some (.int .i64 kb.num) ∧ W.cell? ⟨b, o + 4 + 2, none⟩ = some (.string kb.name) ∧ W.cell? ⟨b, o + 4 + 3, none⟩ = some (.slice Ak1 kb.kids.length ck1)) ∧ (W.cell? ⟨b, o + 8, none⟩ = some (.int .u8 kc.kind) ∧ W.cell? ⟨b, o + 8 + 1, none⟩ = some (.int .i64 kc.num) ∧ W.cell? ⟨b, o + 8 + 2, none⟩ = some (.string kc.name) ∧ W.cell? ⟨b, o + 8 + 3, none⟩ = some (.slice Ak2 kc.kids.length ck2)) ∧ (W.cell? ⟨b, o + 12, none⟩ = some (.int .u8 kd.kind) ∧ W.cell? ⟨b, o + 12 + 1, none⟩ = some (.int .i64 kd.num) ∧ W.cell? ⟨b, o + 12 + 2, none⟩ = some (.string kd.name) ∧ W.cell? ⟨b, o + 12 + 3, none⟩ = some (.slice Ak3 kd.kids.length ck3))) → ((W.setCell ⟨P, 3, none⟩ v).cell? ⟨w.heap.size, 3, none⟩ = some (.slice (some ⟨b, o, none⟩) t.kids.length c) ∧ ((W.setCell ⟨P, 3, none⟩ v).cell? ⟨b, o, none⟩ = some (.int .u8 ka.kind) ∧ (W.setCell ⟨P, 3, none⟩ v).cell? ⟨b, o + 1, none⟩ = some (.int .i64 ka.num) ∧ (W.setCell ⟨P, 3, none⟩ v).cell? ⟨b, o + 2, none⟩ = some (.string ka.name) ∧ (W.setCell ⟨P, 3, none⟩ v).cell? ⟨b, o + 3, none⟩ = some (.slice Ak0 ka.kids.length ck0)) ∧ ((W.setCell ⟨P, 3, none⟩ v).cell? ⟨b, o + 4, none⟩ = some (.int .u8 kb.kind) ∧ (W.setCell ⟨P, 3, none⟩ v).cell? ⟨b, o + 4 + 1, none⟩ = some (.int .i64 kb.num) ∧ (W.setCell ⟨P, 3, none⟩ v).cell? ⟨b, o + 4 + 2, none⟩ = some (.string kb.name) ∧ (W.setCell ⟨P, 3, none⟩ v).cell? ⟨b, o + 4 + 3, none⟩ = some (.slice Ak1 kb.kids.length ck1)) ∧ ((W.setCell ⟨P, 3, none⟩ v).cell? ⟨b, o + 8, none⟩ = some (.int .u8 kc.kind) ∧ (W.setCell ⟨P, 3, none⟩ v).cell? ⟨b, o + 8 + 1, none⟩ = some (.int .i64 kc.num) ∧ (W.setCell ⟨P, 3, none⟩ v).cell? ⟨b, o + 8 + 2, none⟩ = some (.string kc.name) ∧ (W.setCell ⟨P, 3, none⟩ v).cell? ⟨b, o + 8 + 3, none⟩ = some (.slice Ak2 kc.kids.length ck2)) ∧ ((W.setCell ⟨P, 3, none⟩ v).cell? ⟨b, o + 12, none⟩ = some (.int .u8 kd.kind) ∧ (W.setCell ⟨P, 3, none⟩ v).cell? ⟨b, o + 12 + 1, none⟩ = some (.int .i64 kd.num) ∧ (W.setCell ⟨P, 3, none⟩ v).cell? ⟨b, o + 12 + 2, none⟩ = some (.string kd.name) ∧ (W.setCell ⟨P, 3, none⟩ v).cell? ⟨b, o + 12 + 3, none⟩ = some (.slice Ak3 kd.kids.length ck3)))) := ⟨fun W v hS => by obtain ⟨x3, ⟨e00, e01, e02, e03⟩, ⟨e10, e11, e12, e13⟩, ⟨e20, e21, e22, e23⟩, ⟨e30, e31, e32, e33⟩⟩ := hS; exact ⟨(set_keep hPH.symm _ _ _).trans x3, ⟨(set_keep hPb.symm _ _ _).trans e00, (set_keep hPb.symm _ _ _).trans e01, (set_keep hPb.symm _ _ _).trans e02, (set_keep hPb.symm _ _ _).trans e03⟩, ⟨(set_keep hPb.symm _ _ _).trans e10, (set_keep hPb.symm _ _ _).trans e11, (set_keep hPb.symm _ _ _).trans e12, (set_keep hPb.symm _ _ _).trans e13⟩, ⟨(set_keep hPb.symm _ _ _).trans e20, (set_keep hPb.symm _ _ _).trans e21, (set_keep hPb.symm _ _ _).trans e22, (set_keep hPb.symm _ _ _).trans e23⟩, ⟨(set_keep hPb.symm _ _ _).trans e30, (set_keep hPb.symm _ _ _).trans e31, (set_keep hPb.symm _ _ _).trans e32, (set_keep hPb.symm _ _ _).trans e33⟩⟩⟩
            have HIb2 := Hd.mk (fun W (hb : Below wc.heap.size wc W) => HIb.out Ak1 ck1 W N0 (Nat.le_trans hNc hb.size) (H1.out.below hb))
            have HIc2 := Hd.mk (fun W (hb : Below wc.heap.size wc W) => HIc.out Ak2 ck2 W N0 (Nat.le_trans hNc hb.size) (H2.out.below hb))
            rcases HQ with HQ | ⟨HQ0, HQ⟩
            all_goals
              go_wp2_with fail
              go_region_held3 (fun W' => W'.cell? ⟨w.heap.size, 3, none⟩ = some (.slice (some ⟨b, o, none⟩) t.kids.length c) ∧ (W'.cell? ⟨b, o, none⟩ = some (.int .u8 ka.kind) ∧ W'.cell? ⟨b, o + 1, none⟩ = some (.int .i64 ka.num) ∧ W'.cell? ⟨b, o + 2, none⟩ = some (.string ka.name) ∧ W'.cell? ⟨b, o + 3, none⟩ = some (.slice Ak0 ka.kids.length ck0)) ∧ (W'.cell? ⟨b, o + 4, none⟩ = some (.int .u8 kb.kind) ∧ W'.cell? ⟨b, o + 4 + 1, none⟩ = some (.int .i64 kb.num) ∧ W'.cell? ⟨b, o + 4 + 2, none⟩ = some (.string kb.name) ∧ W'.cell? ⟨b, o + 4 + 3, none⟩ = some (.slice Ak1 kb.kids.length ck1)) ∧ (W'.cell? ⟨b, o + 8, none⟩ = some (.int .u8 kc.kind) ∧ W'.cell? ⟨b, o + 8 + 1, none⟩ = some (.int .i64 kc.num) ∧ W'.cell? ⟨b, o + 8 + 2, none⟩ = some (.string kc.name) ∧ W'.cell? ⟨b, o + 8 + 3, none⟩ = some (.slice Ak2 kc.kids.length ck2)) ∧ (W'.cell? ⟨b, o + 12, none⟩ = some (.int .u8 kd.kind) ∧ W'.cell? ⟨b, o + 12 + 1, none⟩ = some (.int .i64 kd.num) ∧ W'.cell? ⟨b, o + 12 + 2, none⟩ = some (.string kd.name) ∧ W'.cell? ⟨b, o + 12 + 3, none⟩ = some (.slice Ak3 kd.kids.length ck3)))
                (first
                  | with_reducible exact HS.out _ (Below.refl _ _).drew
                  | with_reducible exact HS.out _ HB1.out
                  | with_reducible exact HS.out _ HB2.out
                  | with_reducible exact HS.out _ (ext_alloc HB2.out _)
                  | with_reducible exact HSP.out _ _ (HS.out _ (ext_alloc HB2.out _))
                  | go_keep)
                (first
                  | (have hbb := HB1.out; go_at_call 38; refine (HIc2.out _ HB1.out).mono ?_; rintro e w2 ⟨Ac, cc, rfl, hb2, hic⟩; have hbw2 : Below wc.heap.size wc w2 := ext_trans HB1.out hb2; obtain ⟨x3, ⟨e00, e01, e02, e03⟩, ⟨e10, e11, e12, e13⟩, ⟨e20, e21, e22, e23⟩, ⟨e30, e31, e32, e33⟩⟩ := HS.out _ hbw2; have HIC := Hd.mk hic; have HB2 := Hd.mk hbw2; have HB12 := Hd.mk hb2; have HR1 := Hd.mk (HR.out.next hbw2); obtain ⟨⟨a0, a1, a2, a3⟩, ⟨b0, b1, b2, b3⟩, ⟨d0, d1, d2, d3⟩, hz1⟩ := HR1.out.boxes.facts; obtain ⟨s0, s1, s2, s3⟩ := four_cells HR1.out.out; have t3 := blk_free HR1.out.out 3; have hPw2 : P < w2.heap.size := Nat.lt_of_lt_of_le hPw hbw2.size; clear hb2 hic hbw2)
                  | (go_at_call 38; refine (HIb2.out _ ((Below.refl _ _).drew)).mono ?_; rintro e w1 ⟨Ab, cb, rfl, hb1, hib⟩; have hbw1 : Below wc.heap.size wc w1 := ext_trans ((Below.refl _ _).drew) hb1; obtain ⟨x3, ⟨e00, e01, e02, e03⟩, ⟨e10, e11, e12, e13⟩, ⟨e20, e21, e22, e23⟩, ⟨e30, e31, e32, e33⟩⟩ := HS.out _ hbw1; have HIB := Hd.mk hib; have HB1 := Hd.mk hbw1; have hPw1 : P < w1.heap.size := Nat.lt_of_lt_of_le hPw hbw1.size; clear hb1 hib hbw1))
              go_wp2_with fail
              rw [alloc_set4 _ _ _ _ _ (by simp only [World.setCell, Array.size_modify]; omega), alloc_set _ _ hPw2]
              have HI4 := HR1.out.next (ext_alloc (Below.refl _ _) (.cells #[.int .u8 kd.kind, .int .i64 kd.num, .string kd.name, .slice Ak3 kd.kids.length ck3, .int .u8 kb.inv.kind, .int .i64 kb.inv.num, .string kb.inv.name, .slice Ab kb.inv.kids.length cb, .int .u8 kc.inv.kind, .int .i64 kc.inv.num, .string kc.inv.name, .slice Ac kc.inv.kids.length cc, .int .u8 ka.kind, .int .i64 ka.num, .string ka.name, .slice Ak0 ka.kids.length ck0] 24))
              have hset := HI4.set 3 (.slice (some ⟨w2.heap.size, 0, none⟩) 4 4)
              have hnew : (⟨t.kind, t.num, t.name, [kd, kb.inv, kc.inv, ka]⟩ : Node).In (w2.alloc (.cells #[.int .u8 kd.kind, .int .i64 kd.num, .string kd.name, .slice Ak3 kd.kids.length ck3, .int .u8 kb.inv.kind, .int .i64 kb.inv.num, .string kb.inv.name, .slice Ab kb.inv.kids.length cb, .int .u8 kc.inv.kind, .int .i64 kc.inv.num, .string kc.inv.name, .slice Ac kc.inv.kids.length cc, .int .u8 ka.kind, .int .i64 ka.num, .string ka.name, .slice Ak0 ka.kids.length ck0] 24)) (fun b => ¬ XX N0 w.heap.size P b) (some ⟨w2.heap.size, 0, none⟩) 4 :=
                In_new (u := ⟨t.kind, t.num, t.name, [kd, kb.inv, kc.inv, ka]⟩) (hs := [⟨Ak3, ck3, fun _ => True⟩, ⟨Ab, cb, fun _ => True⟩, ⟨Ac, cc, fun _ => True⟩, ⟨Ak0, ck0, fun _ => True⟩]) ⟨HF.out.1.kind0, HF.out.1.kind1, HF.out.1.num0, HF.out.1.num1, HF.out.1.name⟩ (by simp) rfl (fun j h1 h2 => by
                  rcases (show j = 0 ∨ j = 1 ∨ j = 2 ∨ j = 3 by simp at h1; omega) with rfl | rfl | rfl | rfl
                  · exact Node.In.move (fun _ _ _ => rfl) (fun b hb _ => XX_off (.inl hb) hN hP hPw) _ (H3.out.below HB2.out)
                  · exact Node.In.move (fun _ _ _ => rfl) (fun b hb _ => XX_off hb hN hP hPw) _ (HIB.out.below HB12.out)
                  · exact Node.In.move (fun _ _ _ => rfl) (fun b hb _ => XX_off hb hN hP hPw1) _ HIC.out
                  · exact Node.In.move (fun _ _ _ => rfl) (fun b hb _ => XX_off (.inl hb) hN hP hPw) _ (H0.out.below HB2.out)) (XX_off (.inr (Nat.le_refl _)) hN hP hPw2) rfl
              have hfin := RI_fin hset.1 (hset.2 hnew) (.int .u8 t.kind) (.int .i64 t.num) (.string t.name) (.slice (some ⟨w2.heap.size, 0, none⟩) 4 4)
              refine bodyPost_ret (v := .agg #[.int .u8 t.kind, .int .i64 t.num, .string t.name, .slice (some ⟨w2.heap.size, 0, none⟩) 4 4]) ?_ rfl ⟨some ⟨w2.heap.size, 0, none⟩, 4, ?_, hfin.1, ?_⟩
              · have hcc := res_cells (u0 := .int .u8 t.kind) (u1 := .int .i64 t.num) (u2 := .string t.name) (u3 := .slice (some ⟨w2.heap.size, 0, none⟩) 4 4) hset.1.res
                simp [results, Tryd.results38, go_sem, hcc]
              · rw [HI.out]; rfl
              · rw [HI.out]; exact hfin.2
          · have h6 : t.kind = 54 := by omega
            obtain ⟨ka, kb, kc, hka, hbb, hinv⟩ := inv_three hst h6
            have q7 := q 57 (by omega)
            have q2 := q 52 (by omega)
            have q3 := q 53 (by omega)
            have q4 : (t.kind == 54) = true := by simp [h6]
            obtain ⟨b, o, hA⟩ : ∃ b o, A = some ⟨b, o, none⟩ := by
              obtain ⟨b, o, _, _, hA, _⟩ := (HH.out.below HR.out.boxes.below).at_ 0 (by simp [hka])
              exact ⟨b, o, hA⟩
            obtain ⟨b0, o0, Ak0, ck0, hA0, e00, e01, e02, e03, h0⟩ := (HH.out.below HR.out.boxes.below).at_ 0 (by simp [hka])
            obtain ⟨rfl, rfl⟩ : b = b0 ∧ o = o0 := by rw [hA0] at hA; injection hA with hA; injection hA with h1 h2; exact ⟨h1.symm, h2.symm⟩
            simp only [hka, List.getElem_cons_zero, List.getElem_cons_succ, Nat.zero_mul, Nat.one_mul, Nat.add_zero, Nat.reduceMul] at e00 e01 e02 e03 h0
            have H0 := Hd.mk h0
            obtain ⟨b1, o1, Ak1, ck1, hA1, e10, e11, e12, e13, h1⟩ := (HH.out.below HR.out.boxes.below).at_ 1 (by simp [hka])
            obtain ⟨rfl, rfl⟩ : b = b1 ∧ o = o1 := by rw [hA1] at hA; injection hA with hA; injection hA with h1 h2; exact ⟨h1.symm, h2.symm⟩
            simp only [hka, List.getElem_cons_zero, List.getElem_cons_succ, Nat.zero_mul, Nat.one_mul, Nat.add_zero, Nat.reduceMul] at e10 e11 e12 e13 h1
            have H1 := Hd.mk h1
            obtain ⟨b2, o2, Ak2, ck2, hA2, e20, e21, e22, e23, h2⟩ := (HH.out.below HR.out.boxes.below).at_ 2 (by simp [hka])
            obtain ⟨rfl, rfl⟩ : b = b2 ∧ o = o2 := by rw [hA2] at hA; injection hA with hA; injection hA with h1 h2; exact ⟨h1.symm, h2.symm⟩
            simp only [hka, List.getElem_cons_zero, List.getElem_cons_succ, Nat.zero_mul, Nat.one_mul, Nat.add_zero, Nat.reduceMul] at e20 e21 e22 e23 h2
            have H2 := Hd.mk h2
            clear hA0 hA1 hA2
            subst hA
            have HI := Hd.mk hinv
            have HIb := Hd.mk (IH.out kb (by simp [hka]) (.inr hbb))
            have z0 : (0 : Int) < (t.kids.length : Int) := by simp [hka]
            have z4 : 0 < t.kids.length := by simp [hka]
            have z5 : ¬ t.kids = [] := by simp [hka]
            have z6 : ¬ t.kids.length = 0 := by simp [hka]
            have z1 : (1 : Int) < (t.kids.length : Int) := by simp [hka]
            have z2 : (2 : Int) < (t.kids.length : Int) := by simp [hka]
            have HKA := Hd.mk hka
            have hNc : N0 ≤ wc.heap.size := by have := HR.out.boxes.size; omega
            have hPw : P < wc.heap.size := (Array.getElem?_eq_some_iff.1 HR.out.out).1
            have HB := World.block_lt_of_cell? _ _ e00
            clear hst hpl h0 h1 h2 hka hinv h5 h4 h6
            have HX3 := World.block_lt_of_cell? _ _ x3
            have HS : Hd (∀ W, Below wc.heap.size wc W → W.cell? ⟨w.heap.size, 3, none⟩ = some (.slice (some ⟨b, o, none⟩) t.kids.length c) ∧ (W.cell? ⟨b, o, none⟩ = some (.int .u8 ka.kind) ∧ W.cell? ⟨b, o + 1, none⟩ = some (.int .i64 ka.num) ∧ W.cell? ⟨b, o + 2, none⟩ = some (.string ka.name) ∧ W.cell? ⟨b, o + 3, none⟩ = some (.slice Ak0 ka.kids.length ck0)) ∧ (W.cell? ⟨b, o + 4, none⟩ = some (.int .u8 kb.kind) ∧ W.cell? ⟨b, o + 4 + 1, none⟩ = some (.int .i64 kb.num) ∧ W.cell? ⟨b, o + 4 + 2, none⟩ = some (.string kb.name) ∧ W.cell? ⟨b, o + 4 + 3, none⟩ = some (.slice Ak1 kb.kids.length ck1)) ∧ (W.cell? ⟨b, o + 8, none⟩ = some (.int .u8 kc.kind) ∧ W.cell? ⟨b, o + 8 + 1, none⟩ = some (.int .i64 kc.num) ∧ W.cell? ⟨b, o + 8 + 2, none⟩ = some (.string kc.name) ∧ W.cell? ⟨b, o + 8 + 3, none⟩ = some (.slice Ak2 kc.kids.length ck2))) := ⟨fun W hb => ⟨(hb.cell (p := ⟨w.heap.size, 3, none⟩) HX3).trans x3, ⟨(hb.cell (p := ⟨b, o, none⟩) HB).trans e00, (hb.cell (p := ⟨b, o + 1, none⟩) HB).trans e01, (hb.cell (p := ⟨b, o + 2, none⟩) HB).trans e02, (hb.cell (p := ⟨b, o + 3, none⟩) HB).trans e03⟩, ⟨(hb.cell (p := ⟨b, o + 4, none⟩) HB).trans e10, (hb.cell (p := ⟨b, o + 4 + 1, none⟩) HB).trans e11, (hb.cell (p := ⟨b, o + 4 + 2, none⟩) HB).trans e12, (hb.cell (p := ⟨b, o + 4 + 3, none⟩) HB).trans e13⟩, ⟨(hb.cell (p := ⟨b, o + 8, none⟩) HB).trans e20, (hb.cell (p := ⟨b, o + 8 + 1, none⟩) HB).trans e21, (hb.cell (p := ⟨b, o + 8 + 2, none⟩) HB).trans e22, (hb.cell (p := ⟨b, o + 8 + 3, none⟩) HB).trans e23⟩⟩⟩
            have hbN : b < N0 := In_base (ok := fun x => x < N0) (b := b) HH.out (by rw [HKA.out]; simp)
            have hPb : P ≠ b := by omega
            have hPH : P ≠ w.heap.size := by omega
            have HSP : Hd (∀ (W : World) (v : Value), (W.cell? ⟨w.heap.size, 3, none⟩ = some (.slice (some ⟨b, o, none⟩) t.kids.length c) ∧ (W.cell? ⟨b, o, none⟩ = some (.int .u8 ka.kind) ∧ W.cell? ⟨b, o + 1, none⟩ = some (.int .i64 ka.num) ∧ W.cell? ⟨b, o + 2, none⟩ = some (.string ka.name) ∧ W.cell? ⟨b, o + 3, none⟩ = some (.slice Ak0 ka.kids.length ck0)) ∧ (W.cell? ⟨b, o + 4, none⟩ = some (.int .u8 kb.kind) ∧ W.cell? ⟨b, o + 4 + 1, none⟩ = some (.int .i64 kb.num) ∧ W.cell? ⟨b, o + 4 + 2, none⟩ = some (.string kb.name) ∧ W.cell? ⟨b, o + 4 + 3, none⟩ = some (.slice Ak1 kb.kids.length ck1)) ∧ (W.cell? ⟨b, o + 8, none⟩ = some (.int .u8 kc.kind) ∧ W.cell? ⟨b, o + 8 + 1, none⟩ = some (.int .i64 kc.num) ∧ W.cell? ⟨b, o + 8 + 2, none⟩ = some (.string kc.name) ∧ W.cell? ⟨b, o + 8 + 3, none⟩ = some (.slice Ak2 kc.kids.length ck2))) → ((W.setCell ⟨P, 3, none⟩ v).cell? ⟨w.heap.size, 3, none⟩ = some (.slice (some ⟨b, o, none⟩) t.kids.length c) ∧ ((W.setCell ⟨P, 3, none⟩ v).cell? ⟨b, o, none⟩ = some (.int .u8 ka.kind) ∧ (W.setCell ⟨P, 3, none⟩ v).cell? ⟨b, o + 1, none⟩ = some (.int .i64 ka.num) ∧ (W.setCell ⟨P, 3, none⟩ v).cell? ⟨b, o + 2, none⟩ = some (.string ka.name) ∧ (W.setCell ⟨P, 3, none⟩ v).cell? ⟨b, o + 3, none⟩ = some (.slice Ak0 ka.kids.length ck0)) ∧ ((W.setCell ⟨P, 3, none⟩ v).cell? ⟨b, o + 4, none⟩ = some (.int .u8 kb.kind) ∧ (W.setCell ⟨P, 3, none⟩ v).cell? ⟨b, o + 4 + 1, none⟩ = some (.int .i64 kb.num) ∧ (W.setCell ⟨P, 3, none⟩ v).cell? ⟨b, o + 4 + 2, none⟩ = some (.string kb.name) ∧ (W.setCell ⟨P, 3, none⟩ v).cell? ⟨b, o + 4 + 3, none⟩ = some (.slice Ak1 kb.kids.length ck1)) ∧ ((W.setCell ⟨P, 3, none⟩ v).cell? ⟨b, o + 8, none⟩ = some (.int .u8 kc.kind) ∧ (W.setCell ⟨P, 3, none⟩ v).cell? ⟨b, o + 8 + 1, none⟩ = some (.int .i64 kc.num) ∧ (W.setCell ⟨P, 3, none⟩ v).cell? ⟨b, o + 8 + 2, none⟩ = some (.string kc.name) ∧ (W.setCell ⟨P, 3, none⟩ v).cell? ⟨b, o + 8 + 3, none⟩ = some (.slice Ak2 kc.kids.length ck2)))) := ⟨fun W v hS => by obtain ⟨x3, ⟨e00, e01, e02, e03⟩, ⟨e10, e11, e12, e13⟩, ⟨e20, e21, e22, e23⟩⟩ := hS; exact ⟨(set_keep hPH.symm _ _ _).trans x3, ⟨(set_keep hPb.symm _ _ _).trans e00, (set_keep hPb.symm _ _ _).trans e01, (set_keep hPb.symm _ _ _).trans e02, (set_keep hPb.symm _ _ _).trans e03⟩, ⟨(set_keep hPb.symm _ _ _).trans e10, (set_keep hPb.symm _ _ _).trans e11, (set_keep hPb.symm _ _ _).trans e12, (set_keep hPb.symm _ _ _).trans e13⟩, ⟨(set_keep hPb.symm _ _ _).trans e20, (set_keep hPb.symm _ _ _).trans e21, (set_keep hPb.symm _ _ _).trans e22, (set_keep hPb.symm _ _ _).trans e23⟩⟩⟩
            have HIb2 := Hd.mk (fun W (hb : Below wc.heap.size wc W) => HIb.out Ak1 ck1 W N0 (Nat.le_trans hNc hb.size) (H1.out.below hb))
            go_wp2_with fail
            go_region_held3 (fun W' => W'.cell? ⟨w.heap.size, 3, none⟩ = some (.slice (some ⟨b, o, none⟩) t.kids.length c) ∧ (W'.cell? ⟨b, o, none⟩ = some (.int .u8 ka.kind) ∧ W'.cell? ⟨b, o + 1, none⟩ = some (.int .i64 ka.num) ∧ W'.cell? ⟨b, o + 2, none⟩ = some (.string ka.name) ∧ W'.cell? ⟨b, o + 3, none⟩ = some (.slice Ak0 ka.kids.length ck0)) ∧ (W'.cell? ⟨b, o + 4, none⟩ = some (.int .u8 kb.kind) ∧ W'.cell? ⟨b, o + 4 + 1, none⟩ = some (.int .i64 kb.num) ∧ W'.cell? ⟨b, o + 4 + 2, none⟩ = some (.string kb.name) ∧ W'.cell? ⟨b, o + 4 + 3, none⟩ = some (.slice Ak1 kb.kids.length ck1)) ∧ (W'.cell? ⟨b, o + 8, none⟩ = some (.int .u8 kc.kind) ∧ W'.cell? ⟨b, o + 8 + 1, none⟩ = some (.int .i64 kc.num) ∧ W'.cell? ⟨b, o + 8 + 2, none⟩ = some (.string kc.name) ∧ W'.cell? ⟨b, o + 8 + 3, none⟩ = some (.slice Ak2 kc.kids.length ck2)))
                (first
                  | with_reducible exact HS.out _ (Below.refl _ _).drew
                  | with_reducible exact HS.out _ HB1.out
                  | with_reducible exact HS.out _ (ext_alloc HB1.out _)
                  | with_reducible exact HSP.out _ _ (HS.out _ (ext_alloc HB1.out _))
                  | go_keep)
                (first
                  | (go_at_call 38; refine (HIb2.out _ ((Below.refl _ _).drew)).mono ?_; rintro e w1 ⟨Ab, cb, rfl, hb1, hib⟩; have hbw1 : Below wc.heap.size wc w1 := ext_trans ((Below.refl _ _).drew) hb1; obtain ⟨x3, ⟨e00, e01, e02, e03⟩, ⟨e10, e11, e12, e13⟩, ⟨e20, e21, e22, e23⟩⟩ := HS.out _ hbw1; have HIB := Hd.mk hib; have HB1 := Hd.mk hbw1; have HR1 := Hd.mk (HR.out.next hbw1); obtain ⟨⟨a0, a1, a2, a3⟩, ⟨b0, b1, b2, b3⟩, ⟨d0, d1, d2, d3⟩, hz1⟩ := HR1.out.boxes.facts; obtain ⟨s0, s1, s2, s3⟩ := four_cells HR1.out.out; have t3 := blk_free HR1.out.out 3; have hPw1 : P < w1.heap.size := Nat.lt_of_lt_of_le hPw hbw1.size; clear hb1 hib hbw1))
            go_wp2_with fail
            rw [alloc_set4 _ _ _ _ _ (by simp only [World.setCell, Array.size_modify]; omega), alloc_set _ _ hPw1]
            have HI4 := HR1.out.next (ext_alloc (Below.refl _ _) (.cells #[.int .u8 kc.kind, .int .i64 kc.num, .string kc.name, .slice Ak2 kc.kids.length ck2, .int .u8 kb.inv.kind, .int .i64 kb.inv.num, .string kb.inv.name, .slice Ab kb.inv.kids.length cb, .int .u8 ka.kind, .int .i64 ka.num, .string ka.name, .slice Ak0 ka.kids.length ck0] 24))
            have hset := HI4.set 3 (.slice (some ⟨w1.heap.size, 0, none⟩) 3 3)
            have hnew : (⟨t.kind, t.num, t.name, [kc, kb.inv, ka]⟩ : Node).In (w1.alloc (.cells #[.int .u8 kc.kind, .int .i64 kc.num, .string kc.name, .slice Ak2 kc.kids.length ck2, .int .u8 kb.inv.kind, .int .i64 kb.inv.num, .string kb.inv.name, .slice Ab kb.inv.kids.length cb, .int .u8 ka.kind, .int .i64 ka.num, .string ka.name, .slice Ak0 ka.kids.length ck0] 24)) (fun b => ¬ XX N0 w.heap.size P b) (some ⟨w1.heap.size, 0, none⟩) 3 :=
              In_new (u := ⟨t.kind, t.num, t.name, [kc, kb.inv, ka]⟩) (hs := [⟨Ak2, ck2, fun _ => True⟩, ⟨Ab, cb, fun _ => True⟩, ⟨Ak0, ck0, fun _ => True⟩]) ⟨HF.out.1.kind0, HF.out.1.kind1, HF.out.1.num0, HF.out.1.num1, HF.out.1.name⟩ (by simp) rfl (fun j h1 h2 => by
                rcases (show j = 0 ∨ j = 1 ∨ j = 2 by simp at h1; omega) with rfl | rfl | rfl
                · exact Node.In.move (fun _ _ _ => rfl) (fun b hb _ => XX_off (.inl hb) hN hP hPw) _ (H2.out.below HB1.out)
                · exact Node.In.move (fun _ _ _ => rfl) (fun b hb _ => XX_off hb hN hP hPw) _ HIB.out
                · exact Node.In.move (fun _ _ _ => rfl) (fun b hb _ => XX_off (.inl hb) hN hP hPw) _ (H0.out.below HB1.out)) (XX_off (.inr (Nat.le_refl _)) hN hP hPw1) rfl
            have hfin := RI_fin hset.1 (hset.2 hnew) (.int .u8 t.kind) (.int .i64 t.num) (.string t.name) (.slice (some ⟨w1.heap.size, 0, none⟩) 3 3)
            refine bodyPost_ret (v := .agg #[.int .u8 t.kind, .int .i64 t.num, .string t.name, .slice (some ⟨w1.heap.size, 0, none⟩) 3 3]) ?_ rfl ⟨some ⟨w1.heap.size, 0, none⟩, 3, ?_, hfin.1, ?_⟩
            · have hcc := res_cells (u0 := .int .u8 t.kind) (u1 := .int .i64 t.num) (u2 := .string t.name) (u3 := .slice (some ⟨w1.heap.size, 0, none⟩) 3 3) hset.1.res
              simp [results, Tryd.results38, go_sem, hcc]
            · rw [HI.out]; rfl
            · rw [HI.out]; exact hfin.2
    · have h57 := isBlock_kind hbl
      have e57 : t.kind = 57 := by simpa using h57
      have HI := Hd.mk (inv_block hbl)
      have HKS := Hd.mk (isBlock_kids hbl)
      have HRB := Hd.mk HR.out.block
      clear hbl e57
      go_wp2_with fail
      go_loopw [4] (fun v4 W => ∃ (i : Nat) (x : Int) (A3 : Option Addr) (c3 : Nat) (acc : List Node) (hs2 : List Hdr), v4 = .int .i64 x ∧ x = (i : Int) - 1 ∧ i ≤ t.kids.length ∧ Hd (acc = ((t.kids.drop i).map Node.inv).reverse) ∧ RB w W N0 t A c P A3 c3 acc hs2) (fun v4 _ => (intOf v4 + 1).toNat)
      case atStart => exact ⟨t.kids.length, _, none, 0, [], [], rfl, rfl, Nat.le_refl _, ⟨by simp⟩, HRB.out⟩
      case round =>
        obtain ⟨i, x, A3, c3, acc, hs2, rfl, hx, hi3, HA, RR⟩ := hrel
        have hPr : P < wr.heap.size := (Array.getElem?_eq_some_iff.1 RR.out).1
        obtain ⟨⟨x0, x1, x2, x3⟩, ⟨y0, y1, y2, y3⟩, ⟨f0, f1, f2, f3⟩, hz⟩ := RR.boxes.facts
        obtain ⟨p0, p1, p2, p3⟩ := four_cells RR.out
        have g3 := blk_free RR.out 3
        have HRR := Hd.mk RR
        have hal : acc.length = t.kids.length - i := by rw [HA.out]; simp
        rcases i with _ | k
        · obtain rfl : x = -1 := by omega
          have HAL := Hd.mk hal
          clear RR hal hx hi3
          go_wp2_with fail
          have hlen : acc.length = t.kids.length := by rw [HAL.out]; omega
          have hacc : acc = (t.kids.map Node.inv).reverse := by have := HA.out; simpa using this
          have hu := HRR.out.parts.reads (t := ⟨t.kind, t.num, t.name, acc⟩) ⟨HF.out.1.kind0, HF.out.1.kind1, HF.out.1.num0, HF.out.1.num1, HF.out.1.name⟩ (by show acc.length * 56 ≤ _; rw [hlen]; exact HF.out.2)
          have hfin := RI_fin HRR.out.boxes hu (.int .u8 t.kind) (.int .i64 t.num) (.string t.name) (.slice A3 acc.length c3)
          refine bodyPost_ret (v := .agg #[.int .u8 t.kind, .int .i64 t.num, .string t.name, .slice A3 acc.length c3]) ?_ rfl ⟨A3, c3, ?_, hfin.1, ?_⟩
          · have hcc := res_cells (u0 := .int .u8 t.kind) (u1 := .int .i64 t.num) (u2 := .string t.name) (u3 := .slice A3 acc.length c3) HRR.out.boxes.res
            simp [results, Tryd.results38, go_sem, hcc]
          · rw [HI.out, ← hacc]
          · rw [HI.out, ← hacc]; exact hfin.2
        · obtain rfl : x = (k : Int) := by omega
          have hkl : k < t.kids.length := by omega
          have k0 : (0 : Int) ≤ (k : Int) := by omega
          have k1 : (k : Int) < (t.kids.length : Int) := by omega
          obtain ⟨b, o, A1, c1, rfl, e0, e1, e2, e3, h4⟩ := (HH.out.below RR.boxes.below).at_ k hkl
          have H4 := Hd.mk h4
          have hik := IH.out t.kids[k] (List.getElem_mem _) (.inl (HKS.out _ (List.getElem_mem _)))
          unfold RefInvRuns at hik
          have hNr : N0 ≤ wr.heap.size := by have := RR.boxes.size; omega
          have hmem : t.kids.drop k = t.kids[k] :: t.kids.drop (k + 1) := List.drop_eq_getElem_cons hkl
          have HM := Hd.mk hmem
          have hbnd : acc.length + 1 ≤ t.kids.length := by omega
          have HROW := Hd.mk (fun W (hb : Below wr.heap.size wr W) => (RR.parts.below hb).row)
          have HBD := Hd.mk hbnd
          obtain ⟨u, hu⟩ : ∃ u, t.kids[k].inv = u := ⟨_, rfl⟩
          rw [hu] at hik
          have HIk := Hd.mk hik
          have HU := Hd.mk hu
          have hal2 : acc.length ≤ 2513169434915 := by omega
          clear RR h4 hal hmem hbnd hu hik hx hi3
          go_wp2_with fail
          go_region_law
            (first
              | (refine step_append_lies _ (by rfl) _ _ _ (by rfl) 0 24 i0 _ 4 56 Tryd.underlying22 hi hz0 hz1 hz2 rfl (by omega) (.slice A3 acc.length c3) acc.length (valsAll acc hs2) (by rfl) hrow ⟨w1.heap.size, 0, none⟩ 1 1 [.int .u8 u.kind, .int .i64 u.num, .string u.name, .slice A4 u.kids.length c4] (by rfl) (by rfl) (World.news_of_block (heap_alloc_new w1 _)) (by simp [Value.oneCell']) (by omega) (by simp [maxLen]; omega) (by omega) (by omega) (w1.heap.size + 1) (by simp) ?_; intro g cap w2 hrow2 hgr hat hlt2; have hpb := HRR.out.after HBW.out hgr; obtain ⟨s0, s1, s2, s3⟩ := four_cells hpb; have t3 := blk_free hpb 3; have HPB := Hd.mk hpb; clear hpb)
              | (go_simp; go_at_call 38; refine (HIk.out A1 c1 wr.drew N0 hNr (H4.out.below (Below.refl _ _).drew)).mono ?_; rintro e w1 ⟨A4, c4, rfl, hb, hi4⟩; have hbw : Below wr.heap.size wr w1 := ext_trans (Below.refl _ _).drew hb; have s3 := (hbw.cell (p := ⟨P, 3, none⟩) hPr).trans p3; have hPw1 : P < w1.heap.size := Nat.lt_of_lt_of_le hPr hbw.size; have hrow := HROW.out _ (ext_alloc hbw (.cells #[.int .u8 u.kind, .int .i64 u.num, .string u.name, .slice A4 u.kids.length c4] 24)); have HBW := Hd.mk hbw; have HI4 := Hd.mk hi4; clear hbw hi4))
          all_goals
            go_wp2_with fail
            go_roundw
            case rel =>
              refine ⟨k, (k : Int) - 1, some ⟨g, 0, none⟩, cap, acc ++ [u], _, rfl, rfl, by omega, ⟨?_⟩, HRR.out.push hN HBW.out HI4.out hrow2 hgr hat⟩
              rw [HA.out, HM.out, List.map_cons, List.reverse_cons, HU.out]
            case measure => simp [intOf] <;> omega
theorem refInv_any (t : Node) : (t.isStmt = true ∨ t.isBlock = true) → RefInvRuns t := by
  induction t using Node.ind with
  | h t ih => exact fun ht => refInv_step t ht (fun k hk h => ih k hk h)
end Go.Proofs.YtgjanglonccclaaDoor

/- Contract of the reference's Cancels. -/
namespace Go.Proofs.YtgjanglonccclaaDoor
open Go.RowKit
set_option linter.unusedVariables false
set_option linter.unusedSimpArgs false

def refCancelsB (a b : Node) : Bool := !(a.kind == 56) && a.inv.eqB b

set_option maxHeartbeats 1000000 in
theorem refCancels_any (a b : Node) (hst : a.isStmt = true) (A B : Option Addr) (c d : Nat) (w : World) (ok ok' : Nat → Prop) (ha : a.In w ok A c) (hb : b.In w ok' B d) :
    Calls Tryd.prog 13 #[.agg #[.int .u8 a.kind, .int .i64 a.num, .string a.name, .slice A a.kids.length c], .agg #[.int .u8 b.kind, .int .i64 b.num, .string b.name, .slice B b.kids.length d]] w fun e w' => e = .returned (.bool (refCancelsB a b)) ∧ Below w.heap.size w w' := by
  have ha' : a.In w (fun x => x < w.heap.size) A c := Node.In.move (fun _ _ _ => rfl) (fun _ _ h => h) _ ha
  have B0 := Hd.mk (Boxes2.start w a A c b B d)
  have HI := Hd.mk (fun W (h : Below w.heap.size w W) => refInv_any a (.inl hst) A c W w.heap.size h.size (ha'.below h))
  have HB := Hd.mk hb
  clear ha ha' hb
  cases hk : (a.kind == 56)
  · have HX := Hd.mk (show refCancelsB a b = a.inv.eqB b by simp [refCancelsB, hk])
    have n0 : (a.kind != 56) = true := by simp [bne, hk]
    rw [HX.out]
    go_enter Tryd.func13, Tryd.ntmps13
    go_wp2_with fail
    obtain ⟨⟨x0, x1, x2, x3⟩, ⟨y0, y1, y2, y3⟩, hz⟩ := B0.out.facts
    go_region_held3 (fun W' => (W'.cell? ⟨w.heap.size, 0, none⟩ = some (.int .u8 a.kind) ∧ W'.cell? ⟨w.heap.size, 1, none⟩ = some (.int .i64 a.num) ∧ W'.cell? ⟨w.heap.size, 2, none⟩ = some (.string a.name) ∧ W'.cell? ⟨w.heap.size, 3, none⟩ = some (.slice A a.kids.length c)) ∧
      (W'.cell? ⟨w.heap.size + 1, 0, none⟩ = some (.int .u8 b.kind) ∧ W'.cell? ⟨w.heap.size + 1, 1, none⟩ = some (.int .i64 b.num) ∧ W'.cell? ⟨w.heap.size + 1, 2, none⟩ = some (.string b.name) ∧ W'.cell? ⟨w.heap.size + 1, 3, none⟩ = some (.slice B b.kids.length d)))
      (go_keep)
      (first
        | (have hbb := HB1.out; go_at_call 18; refine (refEqual_any a.inv b _ B _ d _ _ ok' HI1.out (HB.out.below (ext_trans B0.out.below HB1.out))).mono ?_; rintro e w2 ⟨rfl, hb2⟩; have B2 := (B0.out.next (ext_trans HB1.out hb2)); obtain ⟨⟨x0, x1, x2, x3⟩, ⟨y0, y1, y2, y3⟩, hz⟩ := B2.facts; have HB2 := Hd.mk B2; clear B2)
        | (go_at_call 38; refine (HI.out _ (B0.out.below.drew)).mono ?_; rintro e w1 ⟨A1, c1, rfl, hb1, hi1⟩; have B1 := B0.out.next (ext_trans ((Below.refl _ _).drew) hb1); have HB1 := Hd.mk (ext_trans ((Below.refl _ _).drew) hb1); obtain ⟨⟨x0, x1, x2, x3⟩, ⟨y0, y1, y2, y3⟩, hz⟩ := B1.facts; have HI1 := Hd.mk hi1; clear hi1 hb1 B1))
    go_wp2_with fail
    go_ret
    exact ⟨rfl, HB2.out.below⟩
  · have HX := Hd.mk (show refCancelsB a b = false by simp [refCancelsB, hk])
    have n0 : (a.kind != 56) = false := by simp [bne, hk]
    rw [HX.out]
    go_enter Tryd.func13, Tryd.ntmps13
    go_wp2_with fail
    go_quiet (fail)
    go_wp2_with fail
    go_ret
    exact ⟨rfl, ext_drewN B0.out.below _⟩
end Go.Proofs.YtgjanglonccclaaDoor

/- The plain law of SimplifyCancels: the inverse of the inverse; equality. No program in sight. -/
namespace Go.Proofs.YtgjanglonccclaaDoor
open Go.RowKit
set_option linter.unusedVariables false
set_option linter.unusedSimpArgs false

theorem eqsB_iff {aa : List Node} (ih : ∀ a ∈ aa, ∀ b, a.eqB b = true → a = b) : ∀ bs, eqsB aa bs = true → aa = bs := by
  induction aa with
  | nil => intro bs h; cases bs with
    | nil => rfl
    | cons => simp [eqsB] at h
  | cons a aa ih2 => intro bs h; cases bs with
    | nil => simp [eqsB] at h
    | cons b bs =>
      simp only [eqsB, Bool.and_eq_true] at h
      rw [ih a (by simp) b h.1, ih2 (fun a ha => ih a (by simp [ha])) bs h.2]
theorem toList_data (s : ByteArray) : s.toList = s.data.toList := by
  have key : ∀ (n i : Nat) (r : List UInt8), s.size - i = n → i ≤ s.size → ByteArray.toList.loop s i r = r.reverse ++ s.data.toList.drop i := by
    intro n
    induction n with
    | zero =>
      intro i r h0 h1
      have : i = s.size := by omega
      subst this
      unfold ByteArray.toList.loop
      have : s.data.toList.drop s.size = [] := List.drop_eq_nil_of_le (by simp)
      simp [this]
    | succ n ih =>
      intro i r h0 h1
      have hlt : i < s.size := by omega
      unfold ByteArray.toList.loop
      rw [if_pos hlt, ih (i + 1) _ (by omega) (by omega)]
      have h2 : i < s.data.toList.length := by simpa using hlt
      rw [List.drop_eq_getElem_cons h2]
      have e : s.get! i = s.data.toList[i] := by
        show s.data[i]! = _
        rw [getElem!_pos s.data i (by simpa using hlt)]; simp
      simp [e]
  have := key s.size 0 [] (by omega) (by omega)
  simpa [ByteArray.toList] using this
theorem strB_eq {s t : ByteArray} (h : strB s t = true) : s = t := by
  have h : s.toList = t.toList := by simpa [strB] using h
  rw [toList_data, toList_data] at h
  exact ByteArray.ext (Array.toList_inj.1 h)
theorem eqB_eq (a : Node) : ∀ b, a.eqB b = true → a = b := by
  induction a using Node.ind with
  | h a ih =>
    intro b h
    rw [Node.eqB_eq] at h
    simp only [Bool.and_eq_true, beq_iff_eq] at h
    have hk := eqsB_iff ih b.kids h.2.2.2
    rw [← Node.eta a, ← Node.eta b, h.1, h.2.1, strB_eq h.2.2.1, hk]
theorem eqsB_refl {aa : List Node} (ih : ∀ a ∈ aa, a.eqB a = true) : eqsB aa aa = true := by
  induction aa with
  | nil => rfl
  | cons a aa ih2 => simp only [eqsB]; rw [ih a (by simp), ih2 (fun a ha => ih a (by simp [ha]))]; rfl
theorem eqB_refl (a : Node) : a.eqB a = true := by
  induction a using Node.ind with
  | h a ih => rw [Node.eqB_eq, eqsB_refl ih]; simp [strB]
theorem swapEnds_map (f : Node → Node) (l : List Node) : swapEnds (l.map f) = (swapEnds l).map f := by
  rcases l with _ | ⟨a, _ | ⟨b, _ | ⟨c, _ | ⟨d, _ | ⟨e, r⟩⟩⟩⟩⟩ <;> rfl
theorem swapEnds_swapEnds (l : List Node) : swapEnds (swapEnds l) = l := by
  rcases l with _ | ⟨a, _ | ⟨b, _ | ⟨c, _ | ⟨d, _ | ⟨e, r⟩⟩⟩⟩⟩ <;> rfl
theorem invB_kind (t : Node) : ((invB t).kind == 57) = (t.kind == 57) := by
  unfold invB
  cases h : (t.kind == 57)
  · simp [h]
  · have e : t.kind = 57 := by simpa using h
    simp only [if_true, Node.inv_kind, e]
    decide
theorem inv_inv (t : Node) : t.inv.inv = t := by
  induction t using Node.ind with
  | h t ih =>
    have hB : ∀ k ∈ t.kids, invB (invB k) = k := by
      intro k hk
      unfold invB
      cases h : (k.kind == 57)
      · simp [h]
      · have e : k.kind = 57 := by simpa using h
        simp only [if_true, Node.inv_kind, e]
        have : (invKind 57 == 57) = true := by decide
        rw [this]
        exact ih k hk
    have hmB : (t.kids.map invB).map invB = t.kids := by
      rw [List.map_map]
      conv => rhs; rw [← List.map_id t.kids]
      exact List.map_congr_left (fun k hk => hB k hk)
    have hmI : (t.kids.map Node.inv).map Node.inv = t.kids := by
      rw [List.map_map]
      conv => rhs; rw [← List.map_id t.kids]
      exact List.map_congr_left (fun k hk => ih k hk)
    have fx : ∀ m : Int, (m = 52 ∨ m = 53 ∨ m = 54 ∨ m = 57) → (invKind t.kind == m) = (t.kind == m) := by
      intro m hm
      cases h : (t.kind == m)
      · rw [beq_eq_false_iff_ne] at h ⊢
        exact fun e => h (invKind_back _ _ hm e)
      · have e : t.kind = m := by simpa using h
        rw [e, invKind_fixed m hm]; simp
    rw [Node.inv_eq t.inv, Node.inv_kind, Node.inv_num, Node.inv_name, invKind_invKind]
    have e := Node.inv_eq t
    have hk : t.inv.kids = if t.kind == 57 then (invAll t.kids).reverse else if t.kind == 52 || (t.kind == 53 || t.kind == 54) then swapEnds (invBlocks t.kids) else invBlocks t.kids := by rw [e]
    rw [hk, fx 57 (by omega), fx 52 (by omega), fx 53 (by omega), fx 54 (by omega)]
    conv => rhs; rw [← Node.eta t]
    congr 1
    cases h57 : (t.kind == 57)
    · cases hsw : (t.kind == 52 || (t.kind == 53 || t.kind == 54))
      · simp only [invBlocks_map, hmB, if_false, Bool.false_eq_true]
      · simp only [invBlocks_map, if_true, if_false, Bool.false_eq_true]
        rw [← swapEnds_map, swapEnds_swapEnds, hmB]
    · simp only [invAll_map, if_true, List.map_reverse, List.reverse_reverse, hmI]
theorem inv_eqB_sym (a b : Node) : b.inv.eqB a = a.inv.eqB b := by
  cases h : a.inv.eqB b
  · cases h2 : b.inv.eqB a
    · rfl
    · have := eqB_eq _ _ h2
      rw [← this, inv_inv, eqB_refl] at h
      cases h
  · have := eqB_eq _ _ h
    rw [← this, inv_inv, eqB_refl]
theorem cancelsB_sym (a b : Node) : cancelsB b a = cancelsB a b := by
  unfold cancelsB
  rw [inv_eqB_sym a b]
  cases h : a.inv.eqB b
  · simp
  · have e := eqB_eq _ _ h
    have hk : (b.kind == 56) = (a.kind == 56) := by
      rw [← e, Node.inv_kind]
      cases h2 : (a.kind == 56)
      · rw [beq_eq_false_iff_ne] at h2 ⊢
        intro e2
        have := invKind_invKind a.kind
        rw [e2] at this
        exact h2 (by rw [← this]; decide)
      · have e2 : a.kind = 56 := by simpa using h2
        rw [e2]; decide
    rw [hk]
    cases a.isStmt <;> cases b.isStmt <;> simp
end Go.Proofs.YtgjanglonccclaaDoor

/- Reduced rows of statements: the plain laws of SimplifyInverts, SimplifyEmpties, SimplifyInserts. No program in sight. -/
namespace Go.Proofs.YtgjanglonccclaaDoor
open Go.RowKit
set_option linter.unusedVariables false
set_option linter.unusedSimpArgs false

/-! ### inverses and simplified forms are statements -/
theorem shapeB_map {f : Node → Node} {ks : List Node} : ∀ {ps : List (Node → Bool)}, (∀ p ∈ ps, ∀ k ∈ ks, p k = true → p (f k) = true) → shapeB ks ps = true → shapeB (ks.map f) ps = true := by
  intro ps hf h
  simp only [shapeB, Bool.and_eq_true, beq_iff_eq, List.all_eq_true] at h ⊢
  refine ⟨by simpa using h.1, ?_⟩
  rintro ⟨a, p⟩ hm
  rw [List.zip_map_left, List.mem_map] at hm
  obtain ⟨⟨a0, p0⟩, hm0, e⟩ := hm
  injection e with e1 e2
  subst e1; subst e2
  exact hf p0 (List.of_mem_zip hm0).2 a0 (List.of_mem_zip hm0).1 (h.2 (a0, p0) hm0)
/-- A map of the children that keeps expressions, places and blocks keeps statements of one kind. -/
theorem stmt_map {t : Node} {f : Node → Node} (hf : ∀ k ∈ t.kids, (k.kind == 57) = false → f k = k) (hb : ∀ k ∈ t.kids, k.isBlock = true → (f k).isBlock = true) (h : t.isStmt = true) :
    (⟨t.kind, t.num, t.name, t.kids.map f⟩ : Node).isStmt = true := by
  have hE : ∀ k ∈ t.kids, k.isExpr = true → (f k).isExpr = true := fun k hk h => by rw [hf k hk (isExpr_kind h)]; exact h
  have hP : ∀ k ∈ t.kids, k.isPlace = true → (f k).isPlace = true := fun k hk h => by rw [hf k hk (isPlace_kind h)]; exact h
  have hV : ∀ k ∈ t.kids, k.isVar = true → (f k).isVar = true := fun k hk h => by rw [hf k hk (isVar_kind h)]; exact h
  have go : ∀ ps : List (Node → Bool), (∀ p ∈ ps, p = Node.isPlace ∨ p = Node.isExpr ∨ p = Node.isBlock) → shapeB t.kids ps = true → shapeB (t.kids.map f) ps = true := by
    intro ps hps
    refine shapeB_map fun p hp k hk => ?_
    rcases hps p hp with rfl | rfl | rfl
    · exact hP k hk
    · exact hE k hk
    · exact hb k hk
  rw [Node.isStmt_eq, Bool.and_eq_true] at h ⊢
  refine ⟨h.1, ?_⟩
  have h := h.2
  dsimp only
  split at h
  · rename_i c; rw [if_pos c]; rw [Bool.and_eq_true] at h ⊢; exact ⟨h.1, go _ (by simp) h.2⟩
  · rename_i c; rw [if_neg c]
    split at h
    · rename_i c; rw [if_pos c]; rw [Bool.and_eq_true] at h ⊢; exact ⟨h.1, go _ (by simp) h.2⟩
    · rename_i c; rw [if_neg c]
      split at h
      · rename_i c; rw [if_pos c]; rw [Bool.and_eq_true] at h ⊢; exact ⟨h.1, go _ (by simp) h.2⟩
      · rename_i c; rw [if_neg c]
        split at h
        · rename_i c; rw [if_pos c]; rw [Bool.and_eq_true] at h ⊢; exact ⟨h.1, go _ (by simp) h.2⟩
        · rename_i c; rw [if_neg c]
          split at h
          · rename_i c; rw [if_pos c]
            simp only [Bool.and_eq_true, List.all_eq_true, List.length_map, List.mem_map, forall_exists_index, and_imp, forall_apply_eq_imp_iff₂] at h ⊢
            exact ⟨h.1, h.2.1, fun k hk => hV k hk (h.2.2 k hk)⟩
          · rename_i c; rw [if_neg c]
            split at h
            · rename_i c; rw [if_pos c]; rw [Bool.and_eq_true] at h ⊢; exact ⟨h.1, go _ (by simp) h.2⟩
            · rename_i c; rw [if_neg c]
              split at h
              · rename_i c; rw [if_pos c]; rw [Bool.and_eq_true] at h ⊢; exact ⟨h.1, go _ (by simp) h.2⟩
              · rename_i c; rw [if_neg c]
                split at h
                · rename_i c; rw [if_pos c]; rw [Bool.and_eq_true] at h ⊢; exact ⟨h.1, go _ (by simp) h.2⟩
                · cases h
theorem inv_valid (t : Node) : (t.isStmt = true → t.inv.isStmt = true) ∧ (t.isBlock = true → t.inv.isBlock = true) := by
  induction t using Node.ind with
  | h t ih =>
    constructor
    · intro h
      have h1 : (⟨t.kind, t.num, t.name, t.kids.map invB⟩ : Node).isStmt = true := by
        refine stmt_map (fun k hk h0 => by unfold invB; rw [h0]; rfl) (fun k hk h0 => ?_) h
        unfold invB
        rw [isBlock_kind h0]
        exact (ih k hk).2 h0
      by_cases hp : t.kind ≠ 52 ∧ t.kind ≠ 53 ∧ t.kind ≠ 54 ∧ t.kind ≠ 55
      · rw [inv_plain h hp]
        rw [Node.isStmt_eq] at h ⊢
        dsimp only
        rw [invKind_eq]
        simp only [Bool.and_eq_true] at h ⊢
        refine ⟨h.1, ?_⟩
        have h := h.2
        by_cases e40 : t.kind = 40
        · simp [e40] at h ⊢; exact h
        by_cases e41 : t.kind = 41
        · simp [e41] at h ⊢; exact h
        by_cases e44 : t.kind = 44
        · simp [e44] at h ⊢; exact h
        by_cases e45 : t.kind = 45
        · simp [e45] at h ⊢; exact h
        by_cases e46 : t.kind = 46
        · simp [e46] at h ⊢; exact h
        by_cases e47 : t.kind = 47
        · simp [e47] at h ⊢; exact h
        by_cases e48 : t.kind = 48
        · simp [e48] at h ⊢; exact h
        by_cases e49 : t.kind = 49
        · simp [e49] at h ⊢; exact h
        by_cases e50 : t.kind = 50
        · simp [e50] at h ⊢; exact h
        by_cases e51 : t.kind = 51
        · simp [e51] at h ⊢; exact h
        rw [if_neg e40, if_neg e41, if_neg e44, if_neg e45, if_neg e46, if_neg e47, if_neg e48, if_neg e49, if_neg e50, if_neg e51]
        exact h
      · by_cases h4 : t.kind = 52 ∨ t.kind = 53
        · obtain ⟨a, b, c, d, e, hb, hc, ei⟩ := inv_four h h4
          rw [ei]
          rw [Node.isStmt_eq, e] at h
          rw [Node.isStmt_eq]
          have ihb := (ih b (by rw [e]; simp)).2 hb
          have ihc := (ih c (by rw [e]; simp)).2 hc
          rcases h4 with e4 | e4
          · simp [e4, shapeB, ihb, ihc] at h ⊢; exact ⟨h.1, h.2.1, h.2.2.2.2.2, h.2.2.1⟩
          · simp [e4, shapeB, ihb, ihc] at h ⊢; exact ⟨h.1, h.2.1, h.2.2.2.2.2, h.2.2.1⟩
        · by_cases h3 : t.kind = 54
          · obtain ⟨a, b, c, e, hb, ei⟩ := inv_three h h3
            rw [ei]
            rw [Node.isStmt_eq, e] at h
            rw [Node.isStmt_eq]
            have ihb := (ih b (by rw [e]; simp)).2 hb
            simp [h3, shapeB, ihb] at h ⊢; exact ⟨h.1, h.2.1, h.2.2.2.2, h.2.2.1⟩
          · have h5 : t.kind = 55 := by omega
            obtain ⟨a, e, hb, ei⟩ := inv_one h h5
            rw [ei]
            rw [Node.isStmt_eq, e] at h
            rw [Node.isStmt_eq]
            have ihb := (ih a (by rw [e]; simp)).2 hb
            simp [h5, shapeB, ihb] at h ⊢; exact ⟨h.1, h.2.1⟩
    · intro h
      rw [inv_block h]
      rw [Node.isBlock_eq] at h ⊢
      simp only [Bool.and_eq_true, List.all_eq_true, List.mem_reverse, List.mem_map, forall_exists_index, and_imp, forall_apply_eq_imp_iff₂] at h ⊢
      exact ⟨h.1, h.2.1, h.2.2.1, fun k hk => (ih k hk).1 (h.2.2.2 k hk)⟩
theorem inv_isStmt {t : Node} (h : t.isStmt = true) : t.inv.isStmt = true := (inv_valid t).1 h
theorem inv_isBlock {t : Node} (h : t.isBlock = true) : t.inv.isBlock = true := (inv_valid t).2 h
theorem inv_isStmt_eq (t : Node) : t.inv.isStmt = t.isStmt := by
  cases h : t.isStmt
  · cases h2 : t.inv.isStmt
    · rfl
    · have := inv_isStmt h2; rw [inv_inv, h] at this; cases this
  · exact inv_isStmt h
theorem invKind_set (k : Int) : invKind k = 56 ↔ k = 56 := by
  constructor
  · intro e
    have := invKind_invKind k
    rw [e] at this
    rw [← this]; decide
  · rintro rfl; decide

theorem simpAll_mem (P : Node → Prop) (ks : List Node) : ∀ acc : List Node, (∀ k ∈ acc, P k) → (∀ k ∈ ks, P k.eachS) → ∀ k ∈ simpAll acc ks, P k := by
  induction ks with
  | nil => intro acc h1 _; simpa [simpAll] using h1
  | cons k ks ih =>
    intro acc h1 h2
    rw [simpAll]
    refine ih _ ?_ (fun k hk => h2 k (by simp [hk]))
    intro x hx
    unfold pushC at hx
    split at hx
    · split at hx
      · exact h1 x (List.dropLast_subset _ hx)
      · rcases List.mem_append.1 hx with hx | hx
        · exact h1 x hx
        · simp at hx; subst hx; exact h2 k (by simp)
    · rcases List.mem_append.1 hx with hx | hx
      · exact h1 x hx
      · simp at hx; subst hx; exact h2 k (by simp)
theorem simp_valid (t : Node) : (t.isStmt = true → t.eachS.isStmt = true) ∧ (t.isBlock = true → t.simp.isBlock = true) := by
  induction t using Node.ind with
  | h t ih =>
    constructor
    · intro h
      rw [Node.eachS_eq]
      refine stmt_map (fun k hk h0 => by unfold simpB; rw [h0]; rfl) (fun k hk h0 => ?_) h
      unfold simpB
      rw [isBlock_kind h0]
      exact (ih k hk).2 h0
    · intro h
      rw [Node.simp_eq, Node.isBlock_eq]
      have hk := isBlock_kids h
      have := simpAll_mem (fun k => k.isStmt = true) t.kids [] (by simp) (fun k hk' => (ih k hk').1 (hk k hk'))
      simp only [Bool.and_eq_true, List.all_eq_true]
      exact ⟨by decide, by decide, by decide +kernel, this⟩
theorem eachS_kind (t : Node) : t.eachS.kind = t.kind := by rw [Node.eachS_eq]
theorem eachS_isStmt {t : Node} (h : t.isStmt = true) : t.eachS.isStmt = true := (simp_valid t).1 h
theorem simp_isBlock {t : Node} (h : t.isBlock = true) : t.simp.isBlock = true := (simp_valid t).2 h

/-! ### reduced rows -/
theorem cancelsB_iff (a b : Node) : cancelsB a b = true ↔ a.isStmt = true ∧ a.kind ≠ 56 ∧ b = a.inv := by
  unfold cancelsB
  simp only [Bool.and_eq_true, Bool.not_eq_true', beq_eq_false_iff_ne]
  constructor
  · rintro ⟨h1, _, h3, h4⟩; exact ⟨h1, h3, (eqB_eq _ _ h4).symm⟩
  · rintro ⟨h1, h2, rfl⟩; exact ⟨h1, inv_isStmt h1, h2, eqB_refl _⟩
/-- No two neighbours cancel. -/
def Redd (l : List Node) : Prop := ∀ u a b v, l = u ++ a :: b :: v → cancelsB a b = false
def redF (acc l : List Node) : List Node := l.foldl pushC acc
theorem simpAll_redF (acc ks : List Node) : simpAll acc ks = redF acc (ks.map Node.eachS) := by
  rw [simpAll_foldl]; unfold redF; rw [List.foldl_map]
theorem pushC_nil (s : Node) : pushC [] s = [s] := rfl
theorem pushC_snoc (d : List Node) (l s : Node) : pushC (d ++ [l]) s = if cancelsB l s then d else d ++ [l] ++ [s] := by
  unfold pushC
  simp
theorem redd_nil : Redd [] := by
  intro u a b v h; simp at h
theorem Redd.pre {d e : List Node} (h : Redd (d ++ e)) : Redd d := by
  rintro u a b v rfl
  exact h u a b (v ++ e) (by simp)
theorem Redd.snoc {d : List Node} {l s : Node} (h : Redd (d ++ [l])) (hc : cancelsB l s = false) : Redd (d ++ [l] ++ [s]) := by
  intro u a b v e
  rcases List.eq_nil_or_concat v with rfl | ⟨v', x, rfl⟩
  · have e2 : d ++ [l] ++ [s] = (u ++ [a]) ++ [b] := by rw [e]; simp
    obtain ⟨e3, e4⟩ := List.append_inj' e2 rfl
    obtain ⟨_, e5⟩ := List.append_inj' e3 rfl
    injection e4 with e4; injection e5 with e5
    rw [← e4, ← e5]; exact hc
  · have e2 : d ++ [l] ++ [s] = (u ++ a :: b :: v') ++ [x] := by rw [e]; simp
    obtain ⟨e3, _⟩ := List.append_inj' e2 rfl
    exact h u a b v' e3
theorem redd_one (s : Node) : Redd [s] := by
  intro u a b v h
  have := congrArg List.length h
  simp at this; omega
theorem Redd.push {acc : List Node} (h : Redd acc) (s : Node) : Redd (pushC acc s) := by
  rcases List.eq_nil_or_concat acc with rfl | ⟨d, l, rfl⟩
  · exact redd_one s
  · rw [List.concat_eq_append] at h ⊢
    rw [pushC_snoc]
    split
    · exact h.pre
    · rename_i hc
      exact h.snoc (by simpa using hc)
theorem Redd.redF : ∀ {l acc : List Node}, Redd acc → Redd (redF acc l)
  | [], _, h => h
  | s :: l, _, h => Redd.redF (l := l) (h.push s)
theorem redF_append (acc u v : List Node) : redF acc (u ++ v) = redF (redF acc u) v := by unfold redF; rw [List.foldl_append]
theorem redF_cons (acc : List Node) (a : Node) (v : List Node) : redF acc (a :: v) = redF (pushC acc a) v := rfl
theorem push_two {acc : List Node} {a b : Node} (h : Redd acc) (hc : cancelsB a b = true) : pushC (pushC acc a) b = acc := by
  obtain ⟨h1, h2, rfl⟩ := (cancelsB_iff a b).1 hc
  rcases List.eq_nil_or_concat acc with rfl | ⟨d, l, rfl⟩
  · rw [pushC_nil, show [a] = [] ++ [a] from rfl, pushC_snoc, hc]; rfl
  · rw [List.concat_eq_append] at h ⊢
    rw [pushC_snoc]
    split
    · rename_i hl
      obtain ⟨l1, l2, rfl⟩ := (cancelsB_iff l a).1 hl
      rw [inv_inv]
      rcases List.eq_nil_or_concat d with rfl | ⟨d', m, rfl⟩
      · rfl
      · rw [List.concat_eq_append] at h ⊢
        rw [pushC_snoc, if_neg]
        have := h d' m l [] (by simp)
        simp [this]
    · rw [pushC_snoc, if_pos hc]
theorem redF_two {acc u v : List Node} {a b : Node} (h : Redd acc) (hc : cancelsB a b = true) : redF acc (u ++ a :: b :: v) = redF acc (u ++ v) := by
  rw [redF_append, redF_append, redF_cons, redF_cons, push_two h.redF hc]
theorem redF_redd : ∀ (l acc : List Node), Redd (acc ++ l) → redF acc l = acc ++ l
  | [], acc, _ => by simp [redF]
  | s :: l, acc, h => by
    rw [redF_cons]
    have e : pushC acc s = acc ++ [s] := by
      rcases List.eq_nil_or_concat acc with rfl | ⟨d, m, rfl⟩
      · rfl
      · rw [List.concat_eq_append] at h ⊢
        rw [pushC_snoc, if_neg]
        have := h d m s l (by simp)
        simp [this]
    rw [e, redF_redd l (acc ++ [s]) (by simpa using h)]
    simp
/-- One row comes of another by removing neighbours that cancel. -/
inductive Steps : List Node → List Node → Prop
  | refl (l : List Node) : Steps l l
  | cut {u v l : List Node} {a b : Node} (hc : cancelsB a b = true) (h : Steps (u ++ v) l) : Steps (u ++ a :: b :: v) l
theorem Steps.red {l m : List Node} (h : Steps l m) : redF [] l = redF [] m := by
  induction h with
  | refl => rfl
  | cut hc _ ih => rw [redF_two redd_nil hc, ih]
theorem steps_redF : ∀ (l acc : List Node), Steps (acc ++ l) (redF acc l)
  | [], acc => by simpa [redF] using Steps.refl acc
  | s :: l, acc => by
    rw [redF_cons]
    rcases List.eq_nil_or_concat acc with rfl | ⟨d, m, rfl⟩
    · exact steps_redF l [s]
    · rw [List.concat_eq_append, pushC_snoc]
      split
      · rename_i hc
        have := steps_redF l d
        have := Steps.cut hc this
        simpa using this
      · have := steps_redF l (d ++ [m] ++ [s])
        simpa using this
def invRow (l : List Node) : List Node := (l.map Node.inv).reverse
theorem invRow_append (u v : List Node) : invRow (u ++ v) = invRow v ++ invRow u := by simp [invRow]
theorem invRow_cons (a : Node) (v : List Node) : invRow (a :: v) = invRow v ++ [a.inv] := by simp [invRow]
theorem invRow_invRow (l : List Node) : invRow (invRow l) = l := by
  simp only [invRow, List.map_reverse, List.reverse_reverse, List.map_map]
  conv => rhs; rw [← List.map_id l]
  exact List.map_congr_left (fun k _ => inv_inv k)
theorem cancelsB_inv {a b : Node} (h : cancelsB a b = true) : cancelsB b.inv a.inv = true := by
  obtain ⟨h1, h2, rfl⟩ := (cancelsB_iff a b).1 h
  rw [inv_inv]
  exact h
theorem Steps.inv {l m : List Node} (h : Steps l m) : Steps (invRow l) (invRow m) := by
  induction h with
  | refl => exact .refl _
  | @cut u v l a b hc _ ih =>
    have e : invRow (u ++ a :: b :: v) = invRow v ++ b.inv :: a.inv :: invRow u := by simp [invRow]
    rw [e]
    refine Steps.cut (cancelsB_inv hc) ?_
    rw [invRow_append] at ih
    exact ih
theorem Redd.inv {l : List Node} (h : Redd l) : Redd (invRow l) := by
  intro u a b v e
  have e2 : l = invRow v ++ b.inv :: a.inv :: invRow u := by
    rw [← invRow_invRow l, e]; simp [invRow]
  cases hc : cancelsB a b
  · rfl
  · have := cancelsB_inv hc
    rw [h _ _ _ _ e2] at this; cases this
theorem red_inv (l : List Node) : redF [] (invRow l) = invRow (redF [] l) := by
  have h := (steps_redF l []).inv.red
  simp only [List.nil_append] at h
  rw [h]
  exact redF_redd _ [] (by simpa using (Redd.redF redd_nil).inv)

/-! ### the simplified form of an inverse -/
theorem simp_inv (t : Node) : (t.isStmt = true → t.inv.eachS = t.eachS.inv) ∧ (t.isBlock = true → t.inv.simp = t.simp.inv) := by
  induction t using Node.ind with
  | h t ih =>
    constructor
    · intro h
      have h57 : (t.kind == 57) = false := isStmt_kind h
      have hB : ∀ k ∈ t.kids, simpB (invB k) = invB (simpB k) := by
        intro k hk
        cases h : (k.kind == 57)
        · have e1 : invB k = k := by unfold invB; rw [h]; rfl
          have e2 : simpB k = k := by unfold simpB; rw [h]; rfl
          rw [e1, e2, e1]
        · have hb := isStmt_kids ‹t.isStmt = true› k hk h
          have e : k.kind = 57 := by simpa using h
          have e1 : invB k = k.inv := by unfold invB; rw [h]; rfl
          have e2 : simpB k = k.simp := by unfold simpB; rw [h]; rfl
          have e3 : simpB k.inv = k.inv.simp := by
            unfold simpB
            rw [Node.inv_kind, e]; rfl
          have e4 : invB k.simp = k.simp.inv := by
            unfold invB
            rw [Node.simp_eq]; rfl
          rw [e1, e2, e3, e4]
          exact (ih k hk).2 hb
      have hm : (t.kids.map invB).map simpB = (t.kids.map simpB).map invB := by
        rw [List.map_map, List.map_map]
        exact List.map_congr_left hB
      rw [Node.eachS_eq t.inv, Node.inv_kind, Node.inv_num, Node.inv_name, Node.inv_eq t.eachS]
      rw [Node.eachS_eq t]
      dsimp only
      have hk : t.inv.kids = if t.kind == 57 then (invAll t.kids).reverse else if t.kind == 52 || (t.kind == 53 || t.kind == 54) then swapEnds (invBlocks t.kids) else invBlocks t.kids := by rw [Node.inv_eq]
      rw [hk, h57]
      congr 1
      cases hsw : (t.kind == 52 || (t.kind == 53 || t.kind == 54))
      · simp only [invBlocks_map, if_false, Bool.false_eq_true]; exact hm
      · simp only [invBlocks_map, if_true, if_false, Bool.false_eq_true]
        rw [← swapEnds_map, hm]
    · intro h
      have hk := isBlock_kids h
      rw [Node.simp_eq t.inv, inv_block h]
      dsimp only
      have hsi := inv_block (simp_isBlock h)
      rw [hsi, Node.simp_eq t]
      dsimp only
      congr 1
      rw [simpAll_redF, simpAll_redF]
      show redF [] ((t.kids.map Node.inv).reverse.map Node.eachS) = invRow (redF [] (t.kids.map Node.eachS))
      rw [← red_inv]
      congr 1
      simp only [invRow, List.map_reverse, List.map_map]
      congr 1
      exact List.map_congr_left (fun k hk' => (ih k hk').1 (hk k hk'))
/-- THE PLAIN LAW OF SimplifyInverts. -/
theorem inverts_plain {t : Node} (h : t.isBlock = true) : t.inv.simp.eqB t.simp.inv = true := by
  rw [(simp_inv t).2 h]; exact eqB_refl _
theorem eachS_inv {t : Node} (h : t.isStmt = true) : t.inv.eachS = t.eachS.inv := (simp_inv t).1 h

/-! ### a row and its inverse -/
theorem red_empties (l : List Node) (h : ∀ k ∈ l, k.isStmt = true ∧ k.kind ≠ 56) : redF [] (l ++ invRow l) = [] := by
  induction hn : l.length generalizing l with
  | zero => rw [List.length_eq_zero_iff.1 hn]; rfl
  | succ n ih =>
    rcases List.eq_nil_or_concat l with rfl | ⟨d, a, rfl⟩
    · rfl
    · rw [List.concat_eq_append] at h hn ⊢
      have ha := h a (by simp)
      have e : d ++ [a] ++ invRow (d ++ [a]) = d ++ a :: a.inv :: invRow d := by simp [invRow]
      rw [e, redF_two redd_nil ((cancelsB_iff a a.inv).2 ⟨ha.1, ha.2, rfl⟩)]
      exact ih d (fun k hk => h k (by simp [hk])) (by simpa using hn)
/-- THE PLAIN LAW OF SimplifyEmpties. -/
theorem empties_plain {t : Node} (h : t.isBlock = true) (hs : ∀ k ∈ t.kids, k.kind ≠ 56) (k n : Int) (s : ByteArray) : (⟨k, n, s, t.kids ++ t.inv.kids⟩ : Node).simp.kids = [] := by
  have hk := isBlock_kids h
  rw [Node.simp_eq, inv_block h]
  dsimp only
  rw [simpAll_redF]
  have e : (t.kids ++ (t.kids.map Node.inv).reverse).map Node.eachS = t.kids.map Node.eachS ++ invRow (t.kids.map Node.eachS) := by
    simp only [invRow, List.map_append, List.map_reverse, List.map_map]
    congr 2
    exact List.map_congr_left (fun k hk' => eachS_inv (hk k hk'))
  rw [e]
  refine red_empties _ fun k hk' => ?_
  obtain ⟨k0, h0, rfl⟩ := List.mem_map.1 hk'
  exact ⟨eachS_isStmt (hk k0 h0), by rw [eachS_kind]; exact hs k0 h0⟩
/-- THE PLAIN LAW OF SimplifyInserts. -/
theorem inserts_plain {t s : Node} (hs : s.isStmt = true) (h56 : s.kind ≠ 56) (j : Nat) (k n : Int) (m : ByteArray) : (⟨k, n, m, t.kids.take j ++ s :: s.inv :: t.kids.drop j⟩ : Node).simp.eqB t.simp = true := by
  have e : (⟨k, n, m, t.kids.take j ++ s :: s.inv :: t.kids.drop j⟩ : Node).simp = t.simp := by
    rw [Node.simp_eq, Node.simp_eq]
    dsimp only
    congr 1
    rw [simpAll_redF, simpAll_redF, List.map_append, List.map_cons, List.map_cons, eachS_inv hs]
    rw [redF_two redd_nil ((cancelsB_iff _ _).2 ⟨eachS_isStmt hs, by rw [eachS_kind]; exact h56, rfl⟩)]
    rw [← List.map_append, List.take_append_drop]
  rw [e]; exact eqB_refl _
end Go.Proofs.YtgjanglonccclaaDoor

/- The law's own helpers: op, block; and what the tests with a known answer come to. -/
namespace Go.Proofs.YtgjanglonccclaaDoor
open Go.RowKit
set_option linter.unusedVariables false
set_option linter.unusedSimpArgs false

def opN (k : Int) (s : ByteArray) : Node := ⟨k, 0, ⟨#[]⟩, [⟨2, 0, s, []⟩, ⟨1, 1, ⟨#[]⟩, []⟩]⟩
def sx : ByteArray := ⟨#[120]⟩
def sy : ByteArray := ⟨#[121]⟩
def b1 : Node := ⟨57, 0, ⟨#[]⟩, [opN 40 sx, opN 42 sy, opN 42 sy, opN 41 sx]⟩
def b2 : Node := ⟨57, 0, ⟨#[]⟩, [opN 56 sx, opN 56 sx]⟩
def b3 : Node := ⟨57, 0, ⟨#[]⟩, [opN 40 sx, opN 40 sx]⟩
theorem blockB_b1 : (blockB b1).kind = 57 ∧ (blockB b1).kids.length = 0 := by decide +kernel
theorem blockB_b2 : (blockB b2).kids.length = 2 := by decide +kernel
theorem blockB_b3 : (blockB b3).kids.length = 2 := by decide +kernel
theorem cancels_known : cancelsB (opN 40 sx) (opN 41 sx) = true := by decide +kernel

def OpRet (w : World) (t : Node) (e : Ending) (w' : World) : Prop :=
  ∃ A c, e = .returned (.agg #[.int .u8 t.kind, .int .i64 t.num, .string t.name, .slice A t.kids.length c]) ∧ Below w.heap.size w w' ∧ t.In w' (fun _ => True) A c
theorem leaf_In {w : World} {ok : Nat → Prop} {t : Node} (hf : t.Fits) (hk : t.kids = []) (A : Option Addr) (c : Nat) : t.In w ok A c := by
  rw [Node.In_eq, hk]
  exact ⟨hf, Nat.zero_le _, by simp, .inl rfl⟩
theorem op_any (k : Int) (s : ByteArray) (h0 : 0 ≤ k) (h1 : k ≤ 255) (hs : s.size ≤ 140737488355328) (w : World) :
    Calls Tryd.prog 30 #[.int .u8 k, .string s] w (OpRet w (opN k s)) := by
  go_enter Tryd.func30, Tryd.ntmps30
  go_wp2_with fail
  have hin := In_new (w1 := w.alloc (.cells #[.int .u8 k, .int .i64 0, .string ⟨#[]⟩, .slice (some ⟨w.heap.size + 1, 0, none⟩) 2 2] 24)) (X := fun _ => False) (u := opN k s) (hs := [⟨none, 0, fun _ => True⟩, ⟨none, 0, fun _ => True⟩])
    (cs := #[.int .u8 2, .int .i64 0, .string s, .slice none 0 0, .int .u8 1, .int .i64 1, .string ⟨#[]⟩, .slice none 0 0])
    ⟨h0, h1, by simp [opN], by simp [opN], by simp [opN, ByteArray.size]⟩ (by simp [opN]) rfl (fun j h2 h3 => by
      rcases (show j = 0 ∨ j = 1 by simp [opN] at h2; omega) with rfl | rfl
      · exact leaf_In ⟨by simp [opN], by simp [opN], by simp [opN], by simp [opN], hs⟩ rfl _ _
      · exact leaf_In ⟨by simp [opN], by simp [opN], by simp [opN], by simp [opN], by simp [opN, ByteArray.size]⟩ rfl _ _) (fun h => h) rfl
  rw [World.size_alloc] at hin
  have hb : ((w.alloc (.cells #[.int .u8 k, .int .i64 0, .string ⟨#[]⟩, .slice (some ⟨w.heap.size + 1, 0, none⟩) 2 2] 24)).alloc (.cells #[.int .u8 2, .int .i64 0, .string s, .slice none 0 0, .int .u8 1, .int .i64 1, .string ⟨#[]⟩, .slice none 0 0] 24)).heap[w.heap.size]? = some (.cells #[.int .u8 k, .int .i64 0, .string ⟨#[]⟩, .slice (some ⟨w.heap.size + 1, 0, none⟩) 2 2] 24) := by
    rw [(Go.MapKept.heap_alloc _ _).2 _ (by simp)]; exact heap_alloc_new w _
  refine bodyPost_ret (v := .agg #[.int .u8 k, .int .i64 0, .string ⟨#[]⟩, .slice (some ⟨w.heap.size + 1, 0, none⟩) 2 2]) ?_ rfl ⟨some ⟨w.heap.size + 1, 0, none⟩, 2, rfl, ext_alloc (ext_alloc (Below.refl _ _) _) _, Node.In.move (fun _ _ _ => rfl) (fun _ _ _ => trivial) _ hin⟩
  have hc := four_cells hb
  simp [results, Tryd.results30, go_sem, hc]

theorem lawBlock_any (ks : List Node) (A : Option Addr) (c : Nat) (w : World) :
    Calls Tryd.prog 19 #[.slice A ks.length c] w fun e w' => e = .returned (.agg #[.int .u8 57, .int .i64 0, .string ⟨#[]⟩, .slice A ks.length c]) ∧ Below w.heap.size w w' := by
  go_enter Tryd.func19, Tryd.ntmps19
  go_wp2_with fail
  have hb := heap_alloc_new w (.cells #[.int .u8 57, .int .i64 0, .string ⟨#[]⟩, .slice A ks.length c] 24)
  refine bodyPost_ret (v := .agg #[.int .u8 57, .int .i64 0, .string ⟨#[]⟩, .slice A ks.length c]) ?_ rfl ⟨rfl, ext_alloc (Below.refl _ _) _⟩
  have hc := four_cells hb
  simp [results, Tryd.results19, go_sem, hc]
end Go.Proofs.YtgjanglonccclaaDoor

/- Contract of the law's awake. -/
namespace Go.Proofs.YtgjanglonccclaaDoor
open Go.RowKit
set_option linter.unusedVariables false
set_option linter.unusedSimpArgs false

def BlkRet (w : World) (t : Node) (n : Nat) (e : Ending) (w' : World) : Prop :=
  ∃ A c m s, e = .returned (.agg #[.int .u8 57, .int .i64 m, .string s, .slice A n c]) ∧ Below w.heap.size w w'
theorem known_any (t : Node) (n : Nat) (hk : (blockB t).kind = 57) (hn : (blockB t).kids.length = n) (A : Option Addr) (c : Nat) (w : World) (ok : Nat → Prop) (hw : Good w) (h : t.In w ok A c) :
    Calls Tryd.prog 17 #[.agg #[.int .u8 t.kind, .int .i64 t.num, .string t.name, .slice A t.kids.length c]] w (BlkRet w t n) := by
  refine (Block_any t A c w ok hw h).mono ?_
  rintro e w1 ⟨A1, c1, rfl, hb, _⟩
  exact ⟨A1, c1, (blockB t).num, (blockB t).name, by rw [hk, hn], hb⟩
theorem blockB_b2k : (blockB b2).kind = 57 := by decide +kernel
theorem blockB_b3k : (blockB b3).kind = 57 := by decide +kernel

set_option maxHeartbeats 4000000 in
set_option maxRecDepth 100000 in
theorem awake_any (w : World) (hw : Good w) : Calls Tryd.prog 10 #[] w fun e w' => e = .returned (.bool true) ∧ Below w.heap.size w w' := by
  have HW := Hd.mk hw
  clear hw
  go_enter Tryd.func10, Tryd.ntmps10
  go_wp2_with fail
  refine (op_any 40 sx (by omega) (by omega) (by simp [sx, ByteArray.size]) _).mono ?_
  rintro e p10 ⟨A10, c10, rfl, hb, hi⟩
  have HB10 := Hd.mk hb
  have HI10 := Hd.mk hi
  clear hb hi
  go_wp2_with fail
  refine (op_any 42 sy (by omega) (by omega) (by simp [sy, ByteArray.size]) _).mono ?_
  rintro e p11 ⟨A11, c11, rfl, hb, hi⟩
  have HB11 := Hd.mk hb
  have HI11 := Hd.mk hi
  clear hb hi
  go_wp2_with fail
  refine (op_any 42 sy (by omega) (by omega) (by simp [sy, ByteArray.size]) _).mono ?_
  rintro e p12 ⟨A12, c12, rfl, hb, hi⟩
  have HB12 := Hd.mk hb
  have HI12 := Hd.mk hi
  clear hb hi
  go_wp2_with fail
  refine (op_any 41 sx (by omega) (by omega) (by simp [sx, ByteArray.size]) _).mono ?_
  rintro e p13 ⟨A13, c13, rfl, hb, hi⟩
  have HB13 := Hd.mk hb
  have HI13 := Hd.mk hi
  clear hb hi
  go_wp2_with fail
  refine (lawBlock_any b1.kids (some ⟨p13.heap.size, 0, none⟩) 4 _).mono ?_
  rintro e v1 ⟨rfl, hb⟩
  have hin := In_new (w1 := p13) (X := fun _ => False) (u := b1) (hs := [⟨A10, c10, fun _ => True⟩, ⟨A11, c11, fun _ => True⟩, ⟨A12, c12, fun _ => True⟩, ⟨A13, c13, fun _ => True⟩]) (cs := #[.int .u8 (opN 40 sx).kind, .int .i64 (opN 40 sx).num, .string (opN 40 sx).name, .slice A10 (opN 40 sx).kids.length c10, .int .u8 (opN 42 sy).kind, .int .i64 (opN 42 sy).num, .string (opN 42 sy).name, .slice A11 (opN 42 sy).kids.length c11, .int .u8 (opN 42 sy).kind, .int .i64 (opN 42 sy).num, .string (opN 42 sy).name, .slice A12 (opN 42 sy).kids.length c12, .int .u8 (opN 41 sx).kind, .int .i64 (opN 41 sx).num, .string (opN 41 sx).name, .slice A13 (opN 41 sx).kids.length c13])
    ⟨by simp [b1], by simp [b1], by simp [b1], by simp [b1], by simp [b1, ByteArray.size]⟩ (by simp [b1]) rfl (fun j h2 h3 => by
      rcases (show j = 0 ∨ j = 1 ∨ j = 2 ∨ j = 3 by simp [b1] at h2; omega) with rfl | rfl | rfl | rfl
      · exact Node.In.move (fun _ _ _ => rfl) (fun _ _ _ h => h) _ (HI10.out.below (ext_trans (ext_trans (ext_trans (Below.refl _ _) HB11.out) HB12.out) HB13.out))
      · exact Node.In.move (fun _ _ _ => rfl) (fun _ _ _ h => h) _ (HI11.out.below (ext_trans (ext_trans (Below.refl _ _) HB12.out) HB13.out))
      · exact Node.In.move (fun _ _ _ => rfl) (fun _ _ _ h => h) _ (HI12.out.below (ext_trans (Below.refl _ _) HB13.out))
      · exact Node.In.move (fun _ _ _ => rfl) (fun _ _ _ h => h) _ (HI13.out.below (Below.refl _ _))) (fun h => h) rfl
  have HIN1 := Hd.mk (hin.below hb)
  have HV1 := Hd.mk (ext_trans (ext_alloc (ext_trans (ext_trans (ext_trans (HB10.out) HB11.out) HB12.out) HB13.out) _) hb)
  clear hb hin
  go_wp2_with fail
  refine (known_any b1 0 blockB_b1.1 blockB_b1.2 _ _ _ _ (HW.out.below (ext_trans (Below.refl w.heap.size w) HV1.out)) HIN1.out).mono ?_
  rintro e u1 ⟨R1, d1, m1, s1, rfl, hb⟩
  have HU1 := Hd.mk (ext_trans HV1.out hb)
  have HX1 := Hd.mk (heap_alloc_new u1 (.cells #[.int .u8 57, .int .i64 m1, .string s1, .slice R1 0 d1] 24))
  have HE1 := Hd.mk (ext_alloc (ext_trans (Below.refl w.heap.size w) HU1.out) (.cells #[.int .u8 57, .int .i64 m1, .string s1, .slice R1 0 d1] 24))
  clear hb
  go_wp2_with fail
  refine (op_any 56 sx (by omega) (by omega) (by simp [sx, ByteArray.size]) _).mono ?_
  rintro e p20 ⟨A20, c20, rfl, hb, hi⟩
  have HB20 := Hd.mk hb
  have HI20 := Hd.mk hi
  clear hb hi
  go_wp2_with fail
  refine (op_any 56 sx (by omega) (by omega) (by simp [sx, ByteArray.size]) _).mono ?_
  rintro e p21 ⟨A21, c21, rfl, hb, hi⟩
  have HB21 := Hd.mk hb
  have HI21 := Hd.mk hi
  clear hb hi
  go_wp2_with fail
  refine (lawBlock_any b2.kids (some ⟨p21.heap.size, 0, none⟩) 2 _).mono ?_
  rintro e v2 ⟨rfl, hb⟩
  have hin := In_new (w1 := p21) (X := fun _ => False) (u := b2) (hs := [⟨A20, c20, fun _ => True⟩, ⟨A21, c21, fun _ => True⟩]) (cs := #[.int .u8 (opN 56 sx).kind, .int .i64 (opN 56 sx).num, .string (opN 56 sx).name, .slice A20 (opN 56 sx).kids.length c20, .int .u8 (opN 56 sx).kind, .int .i64 (opN 56 sx).num, .string (opN 56 sx).name, .slice A21 (opN 56 sx).kids.length c21])
    ⟨by simp [b2], by simp [b2], by simp [b2], by simp [b2], by simp [b2, ByteArray.size]⟩ (by simp [b2]) rfl (fun j h2 h3 => by
      rcases (show j = 0 ∨ j = 1 by simp [b2] at h2; omega) with rfl | rfl
      · exact Node.In.move (fun _ _ _ => rfl) (fun _ _ _ h => h) _ (HI20.out.below (ext_trans (Below.refl _ _) HB21.out))
      · exact Node.In.move (fun _ _ _ => rfl) (fun _ _ _ h => h) _ (HI21.out.below (Below.refl _ _))) (fun h => h) rfl
  have HIN2 := Hd.mk (hin.below hb)
  have HV2 := Hd.mk (ext_trans (ext_alloc (ext_trans (HB20.out) HB21.out) _) hb)
  clear hb hin
  go_wp2_with fail
  refine (known_any b2 2 blockB_b2k blockB_b2 _ _ _ _ (HW.out.below (ext_trans HE1.out HV2.out)) HIN2.out).mono ?_
  rintro e u2 ⟨R2, d2, m2, s2, rfl, hb⟩
  have HU2 := Hd.mk (ext_trans HV2.out hb)
  have HX2 := Hd.mk (heap_alloc_new u2 (.cells #[.int .u8 57, .int .i64 m2, .string s2, .slice R2 2 d2] 24))
  have HE2 := Hd.mk (ext_alloc (ext_trans HE1.out HU2.out) (.cells #[.int .u8 57, .int .i64 m2, .string s2, .slice R2 2 d2] 24))
  clear hb
  go_wp2_with fail
  refine (op_any 40 sx (by omega) (by omega) (by simp [sx, ByteArray.size]) _).mono ?_
  rintro e p30 ⟨A30, c30, rfl, hb, hi⟩
  have HB30 := Hd.mk hb
  have HI30 := Hd.mk hi
  clear hb hi
  go_wp2_with fail
  refine (op_any 40 sx (by omega) (by omega) (by simp [sx, ByteArray.size]) _).mono ?_
  rintro e p31 ⟨A31, c31, rfl, hb, hi⟩
  have HB31 := Hd.mk hb
  have HI31 := Hd.mk hi
  clear hb hi
  go_wp2_with fail
  refine (lawBlock_any b3.kids (some ⟨p31.heap.size, 0, none⟩) 2 _).mono ?_
  rintro e v3 ⟨rfl, hb⟩
  have hin := In_new (w1 := p31) (X := fun _ => False) (u := b3) (hs := [⟨A30, c30, fun _ => True⟩, ⟨A31, c31, fun _ => True⟩]) (cs := #[.int .u8 (opN 40 sx).kind, .int .i64 (opN 40 sx).num, .string (opN 40 sx).name, .slice A30 (opN 40 sx).kids.length c30, .int .u8 (opN 40 sx).kind, .int .i64 (opN 40 sx).num, .string (opN 40 sx).name, .slice A31 (opN 40 sx).kids.length c31])
    ⟨by simp [b3], by simp [b3], by simp [b3], by simp [b3], by simp [b3, ByteArray.size]⟩ (by simp [b3]) rfl (fun j h2 h3 => by
      rcases (show j = 0 ∨ j = 1 by simp [b3] at h2; omega) with rfl | rfl
      · exact Node.In.move (fun _ _ _ => rfl) (fun _ _ _ h => h) _ (HI30.out.below (ext_trans (Below.refl _ _) HB31.out))
      · exact Node.In.move (fun _ _ _ => rfl) (fun _ _ _ h => h) _ (HI31.out.below (Below.refl _ _))) (fun h => h) rfl
  have HIN3 := Hd.mk (hin.below hb)
  have HV3 := Hd.mk (ext_trans (ext_alloc (ext_trans (HB30.out) HB31.out) _) hb)
  clear hb hin
  go_wp2_with fail
  refine (known_any b3 2 blockB_b3k blockB_b3 _ _ _ _ (HW.out.below (ext_trans HE2.out HV3.out)) HIN3.out).mono ?_
  rintro e u3 ⟨R3, d3, m3, s3, rfl, hb⟩
  have HU3 := Hd.mk (ext_trans HV3.out hb)
  have HX3 := Hd.mk (heap_alloc_new u3 (.cells #[.int .u8 57, .int .i64 m3, .string s3, .slice R3 2 d3] 24))
  have HE3 := Hd.mk (ext_alloc (ext_trans HE2.out HU3.out) (.cells #[.int .u8 57, .int .i64 m3, .string s3, .slice R3 2 d3] 24))
  clear hb
  have hb1 : u3.heap[u1.heap.size]? = _ := ((ext_trans (ext_alloc HU2.out (.cells #[.int .u8 57, .int .i64 m2, .string s2, .slice R2 2 d2] 24)) HU3.out).block _ (by simp)).trans HX1.out
  have hb2 : u3.heap[u2.heap.size]? = _ := (HU3.out.block _ (by simp)).trans HX2.out
  obtain ⟨x0, x1, x2, x3⟩ := four_cells hb1
  obtain ⟨y0, y1, y2, y3⟩ := four_cells hb2
  have hl1 := World.block_lt_of_cell? _ _ x0
  have hl2 := World.block_lt_of_cell? _ _ y0
  clear hb1 hb2
  go_wp2_with fail
  refine (op_any 40 sx (by omega) (by omega) (by simp [sx, ByteArray.size]) _).mono ?_
  rintro e q1 ⟨Aq1, cq1, rfl, hb, hi⟩
  have HQ1 := Hd.mk (ext_trans HE3.out hb)
  have HI1 := Hd.mk hi
  clear hb hi
  go_wp2_with fail
  refine (op_any 41 sx (by omega) (by omega) (by simp [sx, ByteArray.size]) _).mono ?_
  rintro e q2 ⟨Aq2, cq2, rfl, hb, hi⟩
  have HQ2 := Hd.mk (ext_trans HQ1.out hb)
  have HJ1 := Hd.mk (HI1.out.below hb)
  have HI2 := Hd.mk hi
  clear hb hi
  go_wp2_with fail
  refine (cancels_any (opN 40 sx) (opN 41 sx) Aq1 Aq2 cq1 cq2 _ _ _ (HW.out.below HQ2.out) HJ1.out HI2.out).mono ?_
  rintro e q3 ⟨rfl, hb⟩
  have HQ3 := Hd.mk (ext_trans HQ2.out hb)
  rw [cancels_known]
  clear hb
  go_wp2_with fail
  go_ret
  exact ⟨rfl, HQ3.out⟩
end Go.Proofs.YtgjanglonccclaaDoor

/- Rows of nodes on new memory whose parts are readable in old blocks: for regions that append. -/
namespace Go.Proofs.YtgjanglonccclaaDoor
open Go.RowKit
set_option linter.unusedVariables false
set_option linter.unusedSimpArgs false

/-- The parts of a row that was read. -/
structure Parts (w : World) (N0 : Nat) (ks : List Node) (hs : List Hdr) : Prop where
  len : ks.length = hs.length
  kids : ∀ j (h1 : j < ks.length) (h2 : j < hs.length), (ks[j]).In w (fun b => b < N0) hs[j].A hs[j].c
theorem Parts.below {w w' : World} {N0 : Nat} {ks : List Node} {hs : List Hdr} (p : Parts w N0 ks hs) (hb : Below N0 w w') : Parts w' N0 ks hs :=
  ⟨p.len, fun j h1 h2 => Node.In.move (fun b hok hl => hb.block b hok) (fun b hok _ => hok) _ (p.kids j h1 h2)⟩
theorem Parts.append {w : World} {N0 : Nat} {ks ls : List Node} {hs gs : List Hdr} (p : Parts w N0 ks hs) (q : Parts w N0 ls gs) : Parts w N0 (ks ++ ls) (hs ++ gs) := by
  refine ⟨by simp [p.len, q.len], fun j h1 h2 => ?_⟩
  rcases Nat.lt_or_ge j ks.length with hj | hj
  · have hj2 : j < hs.length := by rw [← p.len]; exact hj
    rw [List.getElem_append_left hj, List.getElem_append_left hj2]
    exact p.kids j hj hj2
  · have hj2 : hs.length ≤ j := by rw [← p.len]; exact hj
    rw [List.getElem_append_right hj, List.getElem_append_right hj2]
    have hl := p.len
    have := q.kids (j - ks.length) (by simp at h1; omega) (by simp at h2; omega)
    simp only [← hl]
    exact this
theorem Parts.take {w : World} {N0 : Nat} {ks : List Node} {hs : List Hdr} (p : Parts w N0 ks hs) (k : Nat) : Parts w N0 (ks.take k) (hs.take k) := by
  refine ⟨by simp [p.len], fun j h1 h2 => ?_⟩
  rw [List.getElem_take, List.getElem_take]
  exact p.kids j (by simp at h1; omega) (by simp at h2; omega)
theorem Parts.drop {w : World} {N0 : Nat} {ks : List Node} {hs : List Hdr} (p : Parts w N0 ks hs) (k : Nat) : Parts w N0 (ks.drop k) (hs.drop k) := by
  refine ⟨by simp [p.len], fun j h1 h2 => ?_⟩
  rw [List.getElem_drop, List.getElem_drop]
  exact p.kids (k + j) (by simp at h1; omega) (by simp at h2; omega)
/-- What was readable is a row's parts. -/
theorem Node.In.parts {w : World} {N0 : Nat} {t : Node} {A : Option Addr} {c : Nat} {ok : Nat → Prop} (h : t.In w ok A c) (hok : ∀ b, ok b → b < w.heap.size → b < N0) :
    ∃ hs : List Hdr, Parts w N0 t.kids hs ∧ (A = none → t.kids.length = 0) ∧ ∀ ad, A = some ad → ∀ j u, (valsAll t.kids hs)[j]? = some u → w.cell? (ad.add j) = some u := by
  obtain ⟨hs, h1, h2, h3, h4⟩ := h.raw
  exact ⟨hs, ⟨h1, fun j g1 g2 => Node.In.move (fun _ _ _ => rfl) hok _ (h4 j g1 g2)⟩, h2, h3⟩
/-- A row of one's own that holds them reads as a node. -/
theorem Parts.reads {w : World} {N0 : Nat} {ks : List Node} {hs : List Hdr} (p : Parts w N0 ks hs) {A : Option Addr} {c : Nat} {base : Nat} (row : w.ownsRow base 24 4 (.slice A ks.length c) ks.length (valsAll ks hs)) (k n : Int) (s : ByteArray)
    (hf : Node.Fits ⟨k, n, s, ks⟩) (hl : ks.length * 56 ≤ 140737488355328) : (⟨k, n, s, ks⟩ : Node).In w (fun _ => True) A c := by
  have row0 : w.ownsRow 0 24 4 (.slice A ks.length c) ks.length (valsAll ks hs) := by
    rcases row with ⟨h1, h2⟩
    refine ⟨h1, ?_⟩
    rcases h2 with h2 | ⟨g, cap, cur, h3, h4, r⟩
    · exact .inl h2
    · exact .inr ⟨g, cap, cur, h3, Nat.zero_le _, r⟩
  rw [Node.In_eq]
  obtain ⟨A0, c0, e0, hc⟩ := row_slice row0
  injection e0 with e0 e1 e2
  refine ⟨hf, by show ks.length ≤ c; omega, hl, ?_⟩
  by_cases hk : ks = []
  · exact .inl hk
  · right
    obtain ⟨g, cap, _, hA, hg, _⟩ := row_at row0 p.len 0 (List.length_pos_iff.2 hk)
    injection hA with hA
    subst hA
    refine ⟨g, 0, rfl, trivial, RowIn.iff.2 fun j hj => ?_⟩
    obtain ⟨g', cap', h2, hA', _, c0, c1, c2, c3⟩ := row_at row0 p.len j hj
    obtain rfl : g' = g := by injection hA' with e; injection e with e; injection e with e; exact e.symm
    rw [Nat.zero_add]
    exact ⟨hs[j].A, hs[j].c, c0, c1, c2, c3, Node.In.move (fun _ _ _ => rfl) (fun x hx _ => trivial) _ (p.kids j hj h2)⟩
/-- An empty row of one's own, wherever it stands. -/
theorem empty_at {w : World} {B base : Nat} (hb : base ≤ B) (h : w.heap[B]? = some (.cells #[] 24)) : w.ownsRow base 24 4 (.slice (some ⟨B, 0, none⟩) 0 0) 0 [] :=
  ⟨rfl, .inr ⟨B, 0, #[], rfl, hb, h, Nat.le_refl _, by simp [maxLen], rfl, rfl⟩⟩
/-- Growth that leaves what is older than N0. -/
theorem below_grown {w w2 : World} {row : Option Nat} {N0 : Nat} {W0 : World} (hb : Below N0 W0 w) (hg : w.grownBy w2 row) (hr : ∀ g, row = some g → N0 ≤ g) (hN : N0 ≤ w.heap.size) : Below N0 W0 w2 :=
  ⟨hg.os.trans hb.os, hg.tape.trans hb.tape, hg.output.trans hb.output, Nat.le_trans hb.size hg.size, fun k hk => (hg.block k (by omega) (fun e => by have := hr k e.symm; omega)).trans (hb.block k hk)⟩
theorem ownsRow_ge {w : World} {base : Nat} {e : TypeId} {size n : Nat} {v : Value} {xs : List Value} (h : w.ownsRow base e size v n xs) : ∀ g, v.ownBlock = some g → base ≤ g := fun g hg => (h.lt g hg).1
theorem blk_top {w : World} {o : Obj} {p : Nat} (h : w.heap.size = p) : (w.alloc o).heap[p]? = some o := by subst h; exact new_block w o
theorem blk_sub {w : World} {o x : Obj} {p : Nat} (h : w.heap[p]? = some x) : (w.alloc o).heap[p]? = some x := by
  rw [(Go.MapKept.heap_alloc w o).2 _ (stands_lt h)]; exact h
theorem blk_drew {w : World} {x : Obj} {p : Nat} (h : w.heap[p]? = some x) : w.drew.heap[p]? = some x := h
theorem have_then {p q : Prop} (h : p) (k : p → q) : q := k h
theorem hd_drew (w : World) : w.drew.heap = w.heap := rfl
theorem hd_alloc (w : World) (o : Obj) : (w.alloc o).heap = w.heap.push o := rfl
theorem lawBlock_n (n : Nat) (A : Option Addr) (c : Nat) (w : World) :
    Calls Tryd.prog 19 #[.slice A n c] w fun e w' => e = .returned (.agg #[.int .u8 57, .int .i64 0, .string ⟨#[]⟩, .slice A n c]) ∧ Below w.heap.size w w' := by
  have := lawBlock_any (List.replicate n ⟨0, 0, ⟨#[]⟩, []⟩) A c w
  simpa using this
/-- append of a whole slice that came in, the length and the row's cells as the caller spells them. -/
theorem step_append_to {w : World} {ops : Array Oper} {o : Oper} {a : Act} {K : Act → World → Prop} {Q : Exit → Act → World → Prop} {E : Prop} (hgd : o.guard = none) (s x : Operand) (t : TypeId)
    (ho : o.op = .call { callee := .builtin .append, args := #[s, x], argTypes := #[t, t] })
    (base : Nat) (e : TypeId) (i : TypeInfo) (z : Value) (size bytes : Nat) (ht : Tryd.prog.underlying t = some (.slice e)) (hi : Tryd.prog.info? e = some i) (hz : i.zero = some z)
    (hsize : i.size = size) (hby : i.bytes = bytes) (hzs : z.cells.size = size) (hsz : 0 < size)
    (v : Value) (n : Nat) (xs : List Value) (A : Option Addr) (m c : Nat) (news : List Value) (r : Nat) (ys : List Value) (hr : n + m = r) (hy : xs ++ news = ys)
    (hs : a.eval s = v) (hown : w.ownsRow base e size v n xs)
    (hx : a.eval x = .slice A m c) (hl : news.length = m * size) (hnone : A = none → m = 0) (hnews : ∀ ad, A = some ad → ∀ j u, news[j]? = some u → w.cell? (ad.add j) = some u) (h1 : ∀ u ∈ news, u.oneCell' = true)
    (h63 : r ≤ maxLen) (hbytes : r * bytes ≤ 140737488355328) (hbase : base ≤ w.heap.size)
    (h : ∀ A' c' w', w'.ownsRow base e size (.slice A' r c') r ys → w.grownBy w' v.ownBlock → ((Value.slice A' r c').ownBlock = v.ownBlock ∨ (Value.slice A' r c').ownBlock = some w.heap.size) → K (a.put o.dst (.slice A' r c')) w') :
    if Region.wanted o (yielded ops a.tmps) = true then Oper.wp Tryd.prog o a w K Q else E := by
  subst hr; subst hy
  exact step_append_src hgd s x t ho base e i z size bytes ht hi hz hsize hby hzs hsz v n xs hs hown A m c news hx hl hnone hnews h1 h63 hbytes hbase h
/-- A block that is another than those an append may have taken. -/
theorem own_ne {A : Option Addr} {n c B P N : Nat} (hat : (Value.slice A n c).ownBlock = (Value.slice (some ⟨B, 0, none⟩) 0 0).ownBlock ∨ (Value.slice A n c).ownBlock = some N) (h1 : P ≠ B) (h2 : P < N) : some P ≠ (Value.slice A n c).ownBlock := by
  rcases hat with e | e <;> rw [e]
  · intro h; exact h1 (Option.some.inj h)
  · intro h; have := Option.some.inj h; omega
theorem own_ne2 {A : Option Addr} {n c P N : Nat} {v : Value} (hat : (Value.slice A n c).ownBlock = v.ownBlock ∨ (Value.slice A n c).ownBlock = some N) (h1 : some P ≠ v.ownBlock) (h2 : P < N) : some P ≠ (Value.slice A n c).ownBlock := by
  rcases hat with e | e <;> rw [e]
  · exact h1
  · intro h; have := Option.some.inj h; omega
theorem own_lt {w : World} {base : Nat} {e : TypeId} {size n : Nat} {v : Value} {xs : List Value} (h : w.ownsRow base e size v n xs) : some w.heap.size ≠ v.ownBlock := fun e => by have := row_lt h e.symm; omega
theorem own_ge {w : World} {base : Nat} {e : TypeId} {size n : Nat} {v : Value} {xs : List Value} {P : Nat} (h : w.ownsRow base e size v n xs) (hP : w.heap.size ≤ P) : some P ≠ v.ownBlock := fun e => by have := row_lt h e.symm; omega
/-- A slice header whose cells are known. -/
structure Src (w : World) (X : Option Addr) (ls : List Node) (gs : List Hdr) : Prop where
  none : X = none → ls.length = 0
  at_ : ∀ ad, X = some ad → ∀ j u, (valsAll ls gs)[j]? = some u → w.cell? (ad.add j) = some u
theorem Src.below {W0 w : World} {X : Option Addr} {ls : List Node} {gs : List Hdr} (s : Src W0 X ls gs) (hb : Below W0.heap.size W0 w) : Src w X ls gs :=
  ⟨s.none, fun ad had j u hu => by
    have := s.at_ ad had j u hu
    rw [hb.cell (World.block_lt_of_cell? _ _ this)]; exact this⟩
theorem Src.of_block {w : World} {D : Nat} {cs : Array Value} {ty : TypeId} {ls : List Node} {gs : List Hdr} (h : w.heap[D]? = some (.cells cs ty)) (hcs : cs.toList = valsAll ls gs) : Src w (some ⟨D, 0, Option.none⟩) ls gs :=
  ⟨(fun h => by cases h), fun ad had j u hu => by
    injection had with had
    subst had
    have e : (⟨D, 0, Option.none⟩ : Addr).add j = ⟨D, j, Option.none⟩ := by unfold Addr.add; split <;> simp_all
    rw [e, cell_blk h, ← Array.getElem?_toList, hcs]; exact hu⟩
theorem valsAll_take_at : ∀ (ls : List Node) (gs : List Hdr) (k j : Nat) (u : Value), (valsAll (ls.take k) (gs.take k))[j]? = some u → (valsAll ls gs)[j]? = some u
  | [], _, _, j, u, h => by simp [valsAll] at h
  | _ :: _, [], _, j, u, h => by simp [valsAll] at h
  | t :: ts, g :: gs, 0, j, u, h => by simp [valsAll] at h
  | t :: ts, g :: gs, k + 1, j, u, h => by
    simp only [List.take_succ_cons, valsAll] at h ⊢
    rcases Nat.lt_or_ge j (t.vals g).length with hj | hj
    · rw [List.getElem?_append_left hj] at h ⊢; exact h
    · rw [List.getElem?_append_right hj] at h ⊢; exact valsAll_take_at ts gs k _ u h
theorem valsAll_drop_at : ∀ (ls : List Node) (gs : List Hdr) (k j : Nat) (u : Value), (valsAll (ls.drop k) (gs.drop k))[j]? = some u → (valsAll ls gs)[k * 4 + j]? = some u
  | [], _, _, j, u, h => by simp [valsAll] at h
  | _ :: ts, [], k, j, u, h => by
    rw [List.drop_nil] at h
    cases hd : (List.drop k (_ :: ts)) <;> rw [hd] at h <;> simp [valsAll] at h
  | t :: ts, g :: gs, 0, j, u, h => by simpa using h
  | t :: ts, g :: gs, k + 1, j, u, h => by
    simp only [List.drop_succ_cons, valsAll] at h ⊢
    have hl : (t.vals g).length = 4 := rfl
    rw [List.getElem?_append_right (by omega), hl, show (k + 1) * 4 + j - 4 = k * 4 + j by omega]
    exact valsAll_drop_at ts gs k j u h
theorem add_zero_addr (b o : Nat) : (⟨b, o, Option.none⟩ : Addr).add 0 = ⟨b, o, Option.none⟩ := by unfold Addr.add; split <;> simp_all
theorem add_addr (b o i j : Nat) : ((⟨b, o, Option.none⟩ : Addr).add i).add j = (⟨b, o, Option.none⟩ : Addr).add (i + j) := by
  have e : ∀ o i, (⟨b, o, Option.none⟩ : Addr).add i = ⟨b, o + i, Option.none⟩ := fun o i => by unfold Addr.add; split <;> simp_all
  rw [e, e, e]; simp [Nat.add_assoc]
/-- The address of a slice that was cut. -/
def cutTo (A : Option Addr) (l m : Nat) : Option Addr := if m = l then A else A.map (·.add (l * 4))
theorem Src.take {w : World} {A : Option Addr} {c : Nat} {t : Node} {hs : List Hdr} {ok : Nat → Prop} (h : t.In w ok A c) (s : Src w A t.kids hs) (k : Nat) : Src w (cutTo A 0 c) (t.kids.take k) (hs.take k) := by
  refine ⟨fun h0 => ?_, fun ad had j u hu => ?_⟩
  · have : A = Option.none := by
      unfold cutTo at h0; split at h0
      · exact h0
      · simpa using h0
    have := s.none this
    rw [List.length_take]; omega
  · have hu2 := valsAll_take_at _ _ _ _ _ hu
    cases A with
    | none => unfold cutTo at had; split at had <;> simp at had
    | some a0 =>
      have hc := s.at_ a0 rfl j u hu2
      unfold cutTo at had
      split at had
      · injection had with had; subst had; exact hc
      · simp only [Option.map_some, Option.some.injEq, Nat.zero_mul] at had
        subst had
        rcases (Node.In_eq.1 h).2.2.2 with h0 | ⟨b, o, hA, _⟩
        · rw [h0] at hu2; simp [valsAll] at hu2
        obtain rfl := Option.some.inj hA
        rw [add_addr, Nat.zero_add]; exact hc
theorem Src.drop {w : World} {A : Option Addr} {c : Nat} {t : Node} {hs : List Hdr} {ok : Nat → Prop} (h : t.In w ok A c) (s : Src w A t.kids hs) (k : Nat) : Src w (cutTo A k c) (t.kids.drop k) (hs.drop k) := by
  refine ⟨fun h0 => ?_, fun ad had j u hu => ?_⟩
  · have : A = Option.none := by
      unfold cutTo at h0; split at h0
      · exact h0
      · simpa using h0
    have := s.none this
    rw [List.length_drop]; omega
  · have hu2 := valsAll_drop_at _ _ _ _ _ hu
    have hl := h.len
    cases A with
    | none => unfold cutTo at had; split at had <;> simp at had
    | some a0 =>
      have hc := s.at_ a0 rfl _ u hu2
      unfold cutTo at had
      split at had
      · have he : t.kids.drop k = [] := List.drop_eq_nil_of_le (by omega)
        rw [he] at hu; simp [valsAll] at hu
      · simp only [Option.map_some, Option.some.injEq] at had
        subst had
        rcases (Node.In_eq.1 h).2.2.2 with h0 | ⟨b, o, hA, _⟩
        · rw [h0] at hu2; simp [valsAll] at hu2
        obtain rfl := Option.some.inj hA
        rw [add_addr]; exact hc
/-- Cutting a slice of nodes, as the machine does it. -/
theorem elemNodes : Tryd.prog.elem 22 = 24 := by kernel_rfl
theorem undNodes : Tryd.prog.underlying 22 = some (.slice (Tryd.prog.elem 22)) := by kernel_rfl
theorem run_cut_to (A : Option Addr) (len c k : Nat) (hk : k ≤ c) (w : World) : (Instr.slice 22 (.slice A len c) Option.none (some (.int .i64 (k : Int))) Option.none).run Tryd.prog w = .ok (.slice (cutTo A 0 c) k c) w := by
  obtain ⟨i0, hi, hz0, hz1, hz2⟩ := info_parts infoNode
  rw [run_slice_h (P := Tryd.prog) w 22 A len c undNodes .i64 (k : Int) (by omega) (by omega), elemNodes]
  simp [sizeOf, typeInfo, hi, hz1, cutTo, sliced]
theorem run_cut_from (A : Option Addr) (len c k : Nat) (hk : k ≤ len) (w : World) : (Instr.slice 22 (.slice A len c) (some (.int .i64 (k : Int))) Option.none Option.none).run Tryd.prog w = .ok (.slice (cutTo A k c) (len - k) (c - k)) w := by
  obtain ⟨i0, hi, hz0, hz1, hz2⟩ := info_parts infoNode
  rw [run_slice_l (P := Tryd.prog) w 22 A len c undNodes .i64 (k : Int) (by omega) (by omega), elemNodes]
  simp [sizeOf, typeInfo, hi, hz1, cutTo, sliced]
theorem some_none {α : Type} {a : α} {p : Prop} (h : some a = Option.none) : p := by cases h
/-- A block that an append leaves alone. -/
theorem grown_keep {w w2 : World} {row : Option Nat} {P : Nat} {o : Obj} {goal : Prop} (hg : w.grownBy w2 row) (h : w.heap[P]? = some o) (hne : some P ≠ row) (k : Hd (w2.heap[P]? = some o) → goal) : goal :=
  k ⟨(hg.block P (stands_lt h) hne).trans h⟩
theorem In_any {w : World} {ok : Nat → Prop} {t : Node} {A : Option Addr} {c : Nat} (h : t.In w ok A c) : t.In w (fun _ => True) A c := Node.In.move (fun _ _ _ => rfl) (fun _ _ _ => trivial) _ h
/-- What region 11 of SimplifyEmpties leaves. -/
def BothIn (W0 : World) (ks : List Node) (v : Value) (wx : World) : Prop :=
  ∃ (P : Nat) (A : Option Addr) (c : Nat), v = .pointer (some ⟨P, 0, none⟩) ∧ Below W0.heap.size W0 wx ∧ wx.heap[P]? = some (.cells #[.int .u8 57, .int .i64 0, .string ⟨#[]⟩, .slice A ks.length c] 24) ∧ (⟨57, 0, ⟨#[]⟩, ks⟩ : Node).In wx (fun _ => True) A c
theorem BothIn.mk {W0 w wx : World} {ks : List Node} {hs : List Hdr} {P n : Nat} {A : Option Addr} {c : Nat} (hb : Below W0.heap.size W0 wx) (hp : wx.heap[P]? = some (.cells #[.int .u8 57, .int .i64 0, .string ⟨#[]⟩, .slice A n c] 24))
    (row : w.ownsRow W0.heap.size 24 4 (.slice A n c) n (valsAll ks hs)) (hn : n = ks.length) (p : Parts W0 W0.heap.size ks hs) (hl : ks.length * 56 ≤ 140737488355328)
    (hk : ∀ g, (Value.slice A n c).ownBlock = some g → wx.heap[g]? = w.heap[g]?) : BothIn W0 ks (.pointer (some ⟨P, 0, none⟩)) wx := by
  subst hn
  exact ⟨P, A, c, rfl, hb, hp, (p.below hb).reads (row_of_block row hk) 57 0 ⟨#[]⟩ ⟨by simp, by simp, by simp, by simp, by simp [ByteArray.size]⟩ hl⟩
end Go.Proofs.YtgjanglonccclaaDoor
