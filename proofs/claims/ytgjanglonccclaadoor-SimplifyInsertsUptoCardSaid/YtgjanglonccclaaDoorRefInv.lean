/- Contract of the reference's Inverse. -/
import Derived.Test.YtgjanglonccclaaDoorRefInvQ
import Derived.Test.YtgjanglonccclaaDoorRefInvS
import Derived.Deep.RegionHeld3
import Derived.Deep.DeepCutAuto
namespace Go.Proofs.YtgjanglonccclaaDoor
open Go.RowKit
set_option linter.unusedVariables false
set_option linter.unusedSimpArgs false

def RefInvRet (w : World) (N0 : Nat) (t : Node) (e : Ending) (w' : World) : Prop :=
  ∃ A c, e = .returned (.agg #[.int .u8 t.kind, .int .i64 t.num, .string t.name, .slice A t.kids.length c]) ∧ Below w.heap.size w w' ∧ t.In w' (fun b => b < N0 ∨ w.heap.size ≤ b) A c
def RefInvRuns (t : Node) : Prop := ∀ (A : Option Addr) (c : Nat) (w : World) (N0 : Nat), N0 ≤ w.heap.size → t.In w (fun b => b < N0) A c → Calls Tryd.prog 38 #[.agg #[.int .u8 t.kind, .int .i64 t.num, .string t.name, .slice A t.kids.length c]] w (RefInvRet w N0 t.inv)

/-- What must not lie under a row: the copy's own block, the result's, what was there but did not come in. -/
def XX (N0 H P : Nat) (b : Nat) : Prop := b = P ∨ b = H + 1 ∨ (N0 ≤ b ∧ b < H)
structure RI (w W : World) (N0 : Nat) (t : Node) (A : Option Addr) (c P : Nat) (A2 : Option Addr) (c2 : Nat) : Prop where
  boxes : Boxes w W t A c
  lo : w.heap.size + 2 ≤ P
  out : W.heap[P]? = some (.cells #[.int .u8 t.kind, .int .i64 t.num, .string t.name, .slice A2 t.kids.length c2] 24)
  kids : t.In W (fun b => ¬ XX N0 w.heap.size P b) A2 c2

theorem empty_row (w : World) (q : Nat) (hq : w.heap.size = q) : ((w.alloc (.cells #[] 24)).drew).ownsRow 0 24 4 (.slice (some ⟨q, 0, none⟩) 0 0) 0 [] := by
  subst hq
  exact ⟨rfl, .inr ⟨_, 0, #[], rfl, Nat.zero_le _, heap_alloc_new w _, Nat.le_refl _, by simp [maxLen], rfl, rfl⟩⟩

theorem empty_row2 (w : World) (o : Obj) (q : Nat) (hq : w.heap.size = q) : (((w.alloc (.cells #[] 24)).alloc o).drew).ownsRow 0 24 4 (.slice (some ⟨q, 0, none⟩) 0 0) 0 [] := by
  subst hq
  refine ⟨rfl, .inr ⟨_, 0, #[], rfl, Nat.zero_le _, ?_, Nat.le_refl _, by simp [maxLen], rfl, rfl⟩⟩
  show ((w.alloc (.cells #[] 24)).alloc o).heap[w.heap.size]? = _
  rw [(Go.MapKept.heap_alloc _ _).2 _ (by simp)]
  exact heap_alloc_new w _
theorem new_last (w : World) (o : Obj) (q : Nat) (hq : w.heap.size = q) : ((w.alloc o).drew).heap[q]? = some o := by
  subst hq; exact heap_alloc_new w _
theorem new_first (w : World) (o o2 : Obj) (q : Nat) (hq : w.heap.size = q) : (((w.alloc o).alloc o2).drew).heap[q]? = some o := by
  subst hq
  show ((w.alloc o).alloc o2).heap[w.heap.size]? = _
  rw [(Go.MapKept.heap_alloc _ _).2 _ (by simp)]
  exact heap_alloc_new w _
theorem set4_keep {w : World} {P b : Nat} (h : b ≠ P) (v0 v1 v2 v3 : Value) (i : Nat) : ((((w.setCell ⟨P, 0, none⟩ v0).setCell ⟨P, 1, none⟩ v1).setCell ⟨P, 2, none⟩ v2).setCell ⟨P, 3, none⟩ v3).cell? ⟨b, i, none⟩ = w.cell? ⟨b, i, none⟩ := by
  refine World.cell?_of_block ?_
  rw [set_other h, set_other h, set_other h, set_other h]
theorem set4_blk {w : World} {P : Nat} {a0 a1 a2 a3 : Value} (hp : w.heap[P]? = some (.cells #[a0, a1, a2, a3] 24)) (v0 v1 v2 v3 : Value) :
    ((((w.setCell ⟨P, 0, none⟩ v0).setCell ⟨P, 1, none⟩ v1).setCell ⟨P, 2, none⟩ v2).setCell ⟨P, 3, none⟩ v3).heap[P]? = some (.cells #[v0, v1, v2, v3] 24) := by
  simpa using set_blk (set_blk (set_blk (set_blk hp 0 v0) 1 v1) 2 v2) 3 v3
theorem vals_one : ∀ (ks : List Node) (hs : List Hdr), ∀ u ∈ valsAll ks hs, u.oneCell' = true
  | [], _, u, h => by simp [valsAll] at h
  | _ :: _, [], u, h => by simp [valsAll] at h
  | t :: ts, hd :: hs, u, h => by
    simp only [valsAll, List.mem_append] at h
    rcases h with h | h
    · simp only [Node.vals, List.mem_cons, List.not_mem_nil, or_false] at h
      rcases h with rfl | rfl | rfl | rfl <;> rfl
    · exact vals_one ts hs u h

theorem RI.make {w Wb Wp w2 Wf : World} {N0 : Nat} {t : Node} {A : Option Addr} {c P q : Nat} {A2 : Option Addr} {c2 : Nat} {hs : List Hdr} (B0 : Boxes w Wb t A c) (hWb : Wb.heap.size = w.heap.size + 2) (hp : Below Wb.heap.size Wb Wp) (hN : N0 ≤ w.heap.size)
    (hF : t.Fits) (hcap : t.kids.length * 56 ≤ 140737488355328) (hlen : t.kids.length = hs.length) (hk : ∀ j (h1 : j < t.kids.length) (h2 : j < hs.length), (t.kids[j]).In w (fun b => b < N0) hs[j].A hs[j].c)
    (hrow : w2.ownsRow 0 24 4 (.slice A2 (0 + t.kids.length) c2) (0 + t.kids.length) ([] ++ valsAll t.kids hs)) (hgr : Wp.grownBy w2 (Value.slice (some ⟨q, 0, none⟩) 0 0).ownBlock)
    (hat : (Value.slice A2 (0 + t.kids.length) c2).ownBlock = (Value.slice (some ⟨q, 0, none⟩) 0 0).ownBlock ∨ (Value.slice A2 (0 + t.kids.length) c2).ownBlock = some Wp.heap.size)
    (hq : w.heap.size + 2 ≤ q) (hPg : ∀ g, (Value.slice A2 (0 + t.kids.length) c2).ownBlock = some g → g ≠ P) (hPlo : w.heap.size + 2 ≤ P) (hf : Below (w.heap.size + 2) w2 Wf) (hfb : ∀ b, b < w2.heap.size → b ≠ P → Wf.heap[b]? = w2.heap[b]?) (hout : Wf.heap[P]? = some (.cells #[.int .u8 t.kind, .int .i64 t.num, .string t.name, .slice A2 t.kids.length c2] 24)) :
    RI w Wf N0 t A c P A2 c2 := by
  rw [Nat.zero_add, List.nil_append] at hrow
  rw [Nat.zero_add] at hat hPg
  have hsz := hp.size
  have b1 : Below (w.heap.size + 2) Wb w2 := by
    refine (hp.mono (by omega)).grown hgr (by omega) (fun k hk => ?_)
    have e : q = k := Option.some.inj hk
    omega
  refine ⟨B0.next ((b1.trans hf).mono (by omega)), hPlo, hout, ?_⟩
  have z : InParts w2 (XX N0 w.heap.size P) t.kids (.slice A2 t.kids.length c2) hs := by
    refine InParts.copied (w := Wp) (ok := fun b => b < N0) hlen (fun j h1 h2 => Node.In.below (hk j h1 h2) (B0.below.trans (hp.mono (by omega)))) (fun b hb => ?_) (fun b hb e => ?_) hgr hrow hat (fun g hg => ?_)
    · unfold XX; have : b < N0 := hb; omega
    · injection e with e
      have e : b = q := e
      have : b < N0 := hb; omega
    · have hne := hPg g hg
      rw [hg] at hat
      unfold XX
      rcases hat with e | e
      · injection e with e
        have e : g = q := e
        omega
      · injection e with e
        omega
  exact (z.move (fun b hb hX => hfb b hb (fun e => hX (.inl e)))).reads hF hcap
theorem In_new {w1 : World} {X : Nat → Prop} {u : Node} {hs : List Hdr} (hf : u.Fits) (hl : u.kids.length * 56 ≤ 140737488355328) (hlen : u.kids.length = hs.length) (hk : ∀ j (h1 : j < u.kids.length) (h2 : j < hs.length), (u.kids[j]).In w1 (fun b => ¬ X b) hs[j].A hs[j].c)
    (hX : ¬ X w1.heap.size) {cs : Array Value} (hcs : cs.toList = valsAll u.kids hs) : u.In (w1.alloc (.cells cs 24)) (fun b => ¬ X b) (some ⟨w1.heap.size, 0, none⟩) u.kids.length := by
  have hsz : cs.size = u.kids.length * 4 := by rw [← Array.length_toList, hcs, valsAll_length hlen]
  refine InParts.reads (hs := hs) ⟨hlen, ⟨valsAll_length hlen, .inr ⟨_, u.kids.length, cs, rfl, Nat.zero_le _, heap_alloc_new w1 _, Nat.le_refl _, by simp [maxLen]; omega, hsz, ?_⟩⟩, fun j h1 h2 => ?_, fun g hg => ?_⟩ hf hl
  · rw [hcs]; exact List.take_of_length_le (by rw [valsAll_length hlen]; exact Nat.le_refl _)
  · refine Node.In.move (fun b _ hb => (Go.MapKept.heap_alloc _ _).2 b hb) (fun b hb hlt => ⟨fun e => ?_, hb⟩) _ (hk j h1 h2)
    have : b = w1.heap.size := Option.some.inj e
    omega
  · have : w1.heap.size = g := Option.some.inj hg
    rw [← this]; exact hX
/-- What a call gives back does not lie where it must not. -/
theorem XX_off {N0 H P B b : Nat} (h : b < N0 ∨ B ≤ b) (hN : N0 ≤ H) (hP : H + 2 ≤ P) (hB : P < B) : ¬ XX N0 H P b := by
  unfold XX; omega
theorem set_keep {w : World} {P b : Nat} (h : b ≠ P) (i j : Nat) (v : Value) : (w.setCell ⟨P, i, none⟩ v).cell? ⟨b, j, none⟩ = w.cell? ⟨b, j, none⟩ := World.cell?_of_block (set_other h)
theorem In_base {w : World} {ok : Nat → Prop} {t : Node} {b o : Nat} {c : Nat} (h : t.In w ok (some ⟨b, o, none⟩) c) (hn : t.kids ≠ []) : ok b := by
  rcases (Node.In_eq.1 h).2.2.2 with h | ⟨b', o', e, hb, _⟩
  · exact absurd h hn
  · injection e with e; injection e with e1 e2
    rw [e1]; exact hb
theorem alloc_set {w : World} {b i : Nat} (o : Obj) (v : Value) (h : b < w.heap.size) : (w.setCell ⟨b, i, none⟩ v).alloc o = (w.alloc o).setCell ⟨b, i, none⟩ v := by
  unfold World.setCell World.alloc
  simp only [World.mk.injEq, and_true, true_and]
  apply Array.ext_getElem?
  intro j
  simp only [Array.getElem?_modify, Array.getElem?_push, Array.size_modify]
  by_cases hj : b = j
  · subst hj
    have : b ≠ w.heap.size := by omega
    simp [this]
  · simp [hj]
theorem alloc_set4 {w : World} {b : Nat} (o : Obj) (v0 v1 v2 v3 : Value) (h : b < w.heap.size) :
    ((((w.setCell ⟨b, 0, none⟩ v0).setCell ⟨b, 1, none⟩ v1).setCell ⟨b, 2, none⟩ v2).setCell ⟨b, 3, none⟩ v3).alloc o = ((((w.alloc o).setCell ⟨b, 0, none⟩ v0).setCell ⟨b, 1, none⟩ v1).setCell ⟨b, 2, none⟩ v2).setCell ⟨b, 3, none⟩ v3 := by
  rw [alloc_set, alloc_set, alloc_set, alloc_set] <;> first | exact h | (simp only [World.setCell, Array.size_modify]; exact h)
theorem RI.next {w W W2 : World} {N0 : Nat} {t : Node} {A : Option Addr} {c P : Nat} {A2 : Option Addr} {c2 : Nat} (R : RI w W N0 t A c P A2 c2) (h : Below W.heap.size W W2) : RI w W2 N0 t A c P A2 c2 :=
  ⟨R.boxes.next h, R.lo, by rw [h.block _ (Array.getElem?_eq_some_iff.1 R.out).1]; exact R.out, R.kids.below h⟩
/-- The same children under another kind. -/
theorem In_rekind {w : World} {ok : Nat → Prop} {t u : Node} {A : Option Addr} {c : Nat} (h : t.In w ok A c) (hk : u.kids = t.kids) (hf : u.Fits) : u.In w ok A c := by
  rw [Node.In_eq] at h ⊢
  rw [hk]
  exact ⟨hf, h.2⟩
/-- The result is written and handed back. -/
theorem RI_fin {w W : World} {t u : Node} {A A3 : Option Addr} {c c3 N0 P : Nat} (B : Boxes w W t A c) (hu : u.In W (fun b => ¬ XX N0 w.heap.size P b) A3 c3) (v0 v1 v2 v3 : Value) :
    Below w.heap.size w ((((W.setCell ⟨w.heap.size + 1, 0, none⟩ v0).setCell ⟨w.heap.size + 1, 1, none⟩ v1).setCell ⟨w.heap.size + 1, 2, none⟩ v2).setCell ⟨w.heap.size + 1, 3, none⟩ v3) ∧
    u.In ((((W.setCell ⟨w.heap.size + 1, 0, none⟩ v0).setCell ⟨w.heap.size + 1, 1, none⟩ v1).setCell ⟨w.heap.size + 1, 2, none⟩ v2).setCell ⟨w.heap.size + 1, 3, none⟩ v3) (fun b => b < N0 ∨ w.heap.size ≤ b) A3 c3 := by
  refine ⟨res_below B.below (by omega) _ _ _ _, Node.In.move (fun b hb _ => res_other (fun e => hb (.inr (.inl e)))) (fun b hb _ => ?_) _ hu⟩
  by_cases h : b < N0 ∨ w.heap.size ≤ b
  · exact h
  · exact absurd (show XX N0 w.heap.size P b from .inr (.inr (by omega))) hb
/-- What stands when the copy has been given another kind or other children. -/
theorem RI.set {w W : World} {N0 : Nat} {t : Node} {A : Option Addr} {c P : Nat} {A2 : Option Addr} {c2 : Nat} (R : RI w W N0 t A c P A2 c2) (i : Nat) (v : Value) :
    Boxes w (W.setCell ⟨P, i, none⟩ v) t A c ∧ ∀ {u : Node} {A3 : Option Addr} {c3 : Nat}, u.In W (fun b => ¬ XX N0 w.heap.size P b) A3 c3 → u.In (W.setCell ⟨P, i, none⟩ v) (fun b => ¬ XX N0 w.heap.size P b) A3 c3 := by
  have hlo := R.lo
  refine ⟨⟨Below.setCell (p := ⟨P, i, none⟩) R.boxes.below (by show w.heap.size ≤ P; omega) _, by simp only [World.setCell, Array.size_modify]; exact R.boxes.size, by rw [set_other (by omega)]; exact R.boxes.box, by rw [set_other (by omega)]; exact R.boxes.res⟩, fun hu => ?_⟩
  exact Node.In.move (fun b hb _ => set_other (fun e => hb (.inl e))) (fun b hb _ => hb) _ hu

/-- While the children of a block are gone through, from the last. -/
structure RB (w W : World) (N0 : Nat) (t : Node) (A : Option Addr) (c P : Nat) (A3 : Option Addr) (c3 : Nat) (acc : List Node) (hs : List Hdr) : Prop where
  boxes : Boxes w W t A c
  lo : w.heap.size + 2 ≤ P
  out : W.heap[P]? = some (.cells #[.int .u8 t.kind, .int .i64 t.num, .string t.name, .slice A3 acc.length c3] 24)
  parts : InParts W (XX N0 w.heap.size P) acc (.slice A3 acc.length c3) hs
  lo2 : ∀ g, (Value.slice A3 acc.length c3).ownBlock = some g → w.heap.size + 2 ≤ g
theorem RI.block {w W : World} {N0 : Nat} {t : Node} {A : Option Addr} {c P : Nat} {A2 : Option Addr} {c2 : Nat} (R : RI w W N0 t A c P A2 c2) : RB w (W.setCell ⟨P, 3, none⟩ (.slice none 0 0)) N0 t A c P none 0 [] [] :=
  ⟨(R.set 3 _).1, R.lo, by rw [set_blk R.out]; simp, InParts.nil, fun g hg => by simp [Value.ownBlock] at hg⟩
theorem RB.push {w wr w1 w2 : World} {N0 : Nat} {t : Node} {A : Option Addr} {c P : Nat} {A3 : Option Addr} {c3 : Nat} {acc : List Node} {hs : List Hdr} (R : RB w wr N0 t A c P A3 c3 acc hs) (hN : N0 ≤ w.heap.size) (hbw : Below wr.heap.size wr w1)
    {u : Node} {A4 : Option Addr} {c4 : Nat} (hu : u.In w1 (fun b => b < N0 ∨ wr.heap.size ≤ b) A4 c4) {g cap : Nat}
    (hrow : w2.ownsRow 0 24 4 (.slice (some ⟨g, 0, none⟩) (acc.length + 1) cap) (acc.length + 1) (valsAll acc hs ++ [.int .u8 u.kind, .int .i64 u.num, .string u.name, .slice A4 u.kids.length c4]))
    (hgr : (w1.alloc (.cells #[.int .u8 u.kind, .int .i64 u.num, .string u.name, .slice A4 u.kids.length c4] 24)).grownBy w2 (Value.slice A3 acc.length c3).ownBlock)
    (hat : (Value.slice A3 acc.length c3).ownBlock = some g ∨ g = w1.heap.size + 1) :
    RB w (w2.setCell ⟨P, 3, none⟩ (.slice (some ⟨g, 0, none⟩) (acc.length + 1) cap)) N0 t A c P (some ⟨g, 0, none⟩) cap (acc ++ [u]) (hs ++ [⟨A4, c4, fun _ => True⟩]) := by
  have hP := R.lo
  have hPw : P < wr.heap.size := (Array.getElem?_eq_some_iff.1 R.out).1
  have hsz := hbw.size
  obtain ⟨W, hW⟩ : ∃ W, w1.alloc (.cells #[.int .u8 u.kind, .int .i64 u.num, .string u.name, .slice A4 u.kids.length c4] 24) = W := ⟨_, rfl⟩
  have hWs : W.heap.size = w1.heap.size + 1 := by rw [← hW]; simp
  have hW1 : Below w1.heap.size w1 W := by rw [← hW]; exact ext_alloc (Below.refl _ _) _
  rw [hW] at hgr
  have hbW : Below wr.heap.size wr W := ext_trans hbw hW1
  have B1 := R.boxes.next hbW
  have hgs := hgr.size
  have hPn : some P ≠ (Value.slice A3 acc.length c3).ownBlock := fun e => R.parts.mine P e.symm (.inl rfl)
  have hgl : ∀ x, (Value.slice A3 acc.length c3).ownBlock = some x → x < wr.heap.size := fun x hx => row_lt R.parts.row hx
  have hg2 : ∀ x, x < w.heap.size + 2 → some x ≠ (Value.slice A3 acc.length c3).ownBlock := fun x hx e => by
    have := R.lo2 x e.symm
    omega
  have hz := R.boxes.size
  have keep : ∀ x, x < wr.heap.size → some x ≠ (Value.slice A3 acc.length c3).ownBlock → w2.heap[x]? = wr.heap[x]? := fun x hx hne => by
    rw [hgr.block _ (by omega) hne, hbW.block _ hx]
  have q : InParts w2 (XX N0 w.heap.size P) (acc ++ [u]) (.slice (some ⟨g, 0, none⟩) (acc.length + 1) cap) (hs ++ [⟨A4, c4, fun _ => True⟩]) := by
    refine (R.parts.below hbW).snoc (Node.In.move (fun b _ hb => hW1.block b hb) (fun b hb hlt => ⟨fun e => by
      have h1 := hgl b e.symm
      have h2 := R.lo2 b e.symm
      have h3 : b < N0 ∨ wr.heap.size ≤ b := hb
      omega, XX_off hb hN hP hPw⟩) _ hu) hgr hrow (by
      rcases hat with h | h
      · exact .inl h.symm
      · exact .inr (by rw [h, ← hWs]; rfl)) (XX_off (.inr (Nat.le_refl _)) hN hP (by omega))
  refine ⟨⟨?_, ?_, ?_, ?_⟩, R.lo, ?_, ?_, ?_⟩
  · refine Below.setCell (p := ⟨P, 3, none⟩) (B1.below.grown hgr (by omega) (fun x hx => ?_)) (by show w.heap.size ≤ P; omega) _
    have := R.lo2 x hx
    omega
  · simp only [World.setCell, Array.size_modify]; omega
  · rw [set_other (by omega), keep _ (by omega) (hg2 _ (by omega))]; exact R.boxes.box
  · rw [set_other (by omega), keep _ (by omega) (hg2 _ (by omega))]; exact R.boxes.res
  · have h := R.out
    rw [← keep P hPw hPn] at h
    rw [set_blk h]; simp
  · rw [List.length_append, List.length_singleton]
    exact q.move (fun b _ hX => set_other (fun e => hX (.inl e)))
  · intro x hx
    have hx : g = x := Option.some.inj hx
    subst hx
    rcases hat with h | h
    · exact R.lo2 g h
    · omega
theorem RB.after {w wr w1 w2 : World} {N0 : Nat} {t : Node} {A : Option Addr} {c P : Nat} {A3 : Option Addr} {c3 : Nat} {acc : List Node} {hs : List Hdr} {o : Obj} (R : RB w wr N0 t A c P A3 c3 acc hs) (hbw : Below wr.heap.size wr w1)
    (hgr : (w1.alloc o).grownBy w2 (Value.slice A3 acc.length c3).ownBlock) : w2.heap[P]? = some (.cells #[.int .u8 t.kind, .int .i64 t.num, .string t.name, .slice A3 acc.length c3] 24) := by
  have hPw : P < wr.heap.size := (Array.getElem?_eq_some_iff.1 R.out).1
  have hsz := hbw.size
  have hPn : some P ≠ (Value.slice A3 acc.length c3).ownBlock := fun e => R.parts.mine P e.symm (.inl rfl)
  rw [block_after hgr (x := .cells #[.int .u8 t.kind, .int .i64 t.num, .string t.name, .slice A3 acc.length c3] 24) (by rw [hbw.block _ hPw]; exact R.out) hPn]

set_option maxHeartbeats 4000000 in
set_option maxRecDepth 100000 in
theorem refInv_step (t : Node) (ht : t.isStmt = true ∨ t.isBlock = true) (ih : ∀ k ∈ t.kids, (k.isStmt = true ∨ k.isBlock = true) → RefInvRuns k) : RefInvRuns t := by
  intro A c w N0 hN h
  have B0 := Hd.mk (Boxes.start w t A c)
  obtain ⟨hs, hlen, hnone, hnews, hk⟩ := h.raw
  have hl := h.lenZ
  have HMX := Hd.mk (show t.kids.length ≤ maxLen by simp [maxLen]; omega)
  have HN := Hd.mk (fun (W : World) (hb : Below w.heap.size w W) ad (had : A = some ad) j u (hu : (valsAll t.kids hs)[j]? = some u) => show W.cell? (ad.add j) = some u by
    have := hnews ad had j u hu
    have hlt := World.block_lt_of_cell? _ _ this
    rw [hb.cell hlt]; exact this)
  have HK := Hd.mk hk
  have HF := Hd.mk (And.intro h.fits h.cap)
  have HNO := Hd.mk hnone
  have HVL := Hd.mk (valsAll_length hlen)
  have HLEN := Hd.mk hlen
  have H1C : Hd (∀ u ∈ valsAll t.kids hs, u.oneCell' = true) := ⟨vals_one _ _⟩
  obtain ⟨i0, hi, hz0, hz1, hz2⟩ := info_parts infoNode
  have IH := Hd.mk ih
  have HH := Hd.mk h
  have HT := Hd.mk ht
  clear hnews hk hlen hnone h ih ht
  go_enter Tryd.func38, Tryd.ntmps38
  go_wp2_with fail
  go_cut [3] (fun v3 wx => ∃ (P : Nat) (A2 : Option Addr) (c2 : Nat), v3 = .pointer (some ⟨P, 0, none⟩) ∧ RI w wx N0 t A c P A2 c2)
  case first =>
    go_region_held3 (fun W' => W'.cell? ⟨w.heap.size, 0, none⟩ = some (.int .u8 t.kind) ∧ W'.cell? ⟨w.heap.size, 1, none⟩ = some (.int .i64 t.num) ∧ W'.cell? ⟨w.heap.size, 2, none⟩ = some (.string t.name) ∧ W'.cell? ⟨w.heap.size, 3, none⟩ = some (.slice A t.kids.length c)) (first | go_keep | (refine ⟨?_, ?_, ?_, ?_⟩ <;> first | exact (set4_keep (by omega) _ _ _ _ _).trans x0 | exact (set4_keep (by omega) _ _ _ _ _).trans x1 | exact (set4_keep (by omega) _ _ _ _ _).trans x2 | exact (set4_keep (by omega) _ _ _ _ _).trans x3)) (first
      | (refine step_append_src (by rfl) _ _ _ (by rfl) 0 24 i0 _ 4 56 Tryd.underlying22 hi hz0 hz1 hz2 rfl (by omega) (.slice (some ⟨w.heap.size + 1 + 1, 0, none⟩) 0 0) 0 [] (by rfl) (empty_row _ _ (by simp)) A t.kids.length c (valsAll t.kids hs) (by rfl) HVL.out HNO.out (HN.out _ ((ext_alloc B0.out.below _).drew)) H1C.out (by rw [Nat.zero_add]; exact HMX.out) (by omega) (Nat.zero_le _) ?_; intro A2 c2 w2 hrow hgr hat; have hb : w2.heap[w.heap.size]? = some (.cells #[.int .u8 t.kind, .int .i64 t.num, .string t.name, .slice A t.kids.length c] 24) := (hgr.block _ (by simp <;> omega) (by simp [Value.ownBlock] <;> omega)).trans (B0.out.next ((ext_alloc (Below.refl _ _) _).drew)).box; obtain ⟨x0, x1, x2, x3⟩ := four_cells hb; have hltw := World.block_lt_of_cell? _ _ x0; have HBX := Hd.mk hb; clear hb)
      | (refine step_append_src (by rfl) _ _ _ (by rfl) 0 24 i0 _ 4 56 Tryd.underlying22 hi hz0 hz1 hz2 rfl (by omega) (.slice (some ⟨w.heap.size + 1 + 1, 0, none⟩) 0 0) 0 [] (by rfl) (empty_row2 _ _ _ (by simp)) A t.kids.length c (valsAll t.kids hs) (by rfl) HVL.out HNO.out (HN.out _ ((ext_alloc (ext_alloc B0.out.below _) _).drew)) H1C.out (by rw [Nat.zero_add]; exact HMX.out) (by omega) (Nat.zero_le _) ?_; intro A2 c2 w2 hrow hgr hat; have hb : w2.heap[w.heap.size]? = some (.cells #[.int .u8 t.kind, .int .i64 t.num, .string t.name, .slice A t.kids.length c] 24) := (hgr.block _ (by simp <;> omega) (by simp [Value.ownBlock] <;> omega)).trans (B0.out.next ((ext_alloc (ext_alloc (Below.refl _ _) _) _).drew)).box; obtain ⟨x0, x1, x2, x3⟩ := four_cells hb; have hltw := World.block_lt_of_cell? _ _ x0; have HBX := Hd.mk hb; clear hb; have hp : w2.heap[w.heap.size + 1 + 1 + 1]? = some (.cells #[.int .u8 0, .int .i64 0, .string ⟨#[]⟩, .slice none 0 0] 24) := (by rw [hgr.block _ (by simp <;> omega) (by simp [Value.ownBlock] <;> omega)]; exact new_last _ _ _ (by simp)); obtain ⟨p0, p1, p2, p3⟩ := four_cells hp; have f0 := blk_free hp 0; have f1 := blk_free hp 1; have f2 := blk_free hp 2; have f3 := blk_free hp 3; have HP := Hd.mk hp; clear hp)
      | (refine step_append_src (by rfl) _ _ _ (by rfl) 0 24 i0 _ 4 56 Tryd.underlying22 hi hz0 hz1 hz2 rfl (by omega) (.slice (some ⟨w.heap.size + 1 + 1 + 1, 0, none⟩) 0 0) 0 [] (by rfl) (empty_row _ _ (by simp)) A t.kids.length c (valsAll t.kids hs) (by rfl) HVL.out HNO.out (HN.out _ ((ext_alloc (ext_alloc B0.out.below _) _).drew)) H1C.out (by rw [Nat.zero_add]; exact HMX.out) (by omega) (Nat.zero_le _) ?_; intro A2 c2 w2 hrow hgr hat; have hb : w2.heap[w.heap.size]? = some (.cells #[.int .u8 t.kind, .int .i64 t.num, .string t.name, .slice A t.kids.length c] 24) := (hgr.block _ (by simp <;> omega) (by simp [Value.ownBlock] <;> omega)).trans (B0.out.next ((ext_alloc (ext_alloc (Below.refl _ _) _) _).drew)).box; obtain ⟨x0, x1, x2, x3⟩ := four_cells hb; have hltw := World.block_lt_of_cell? _ _ x0; have HBX := Hd.mk hb; clear hb; have hp : w2.heap[w.heap.size + 1 + 1]? = some (.cells #[.int .u8 0, .int .i64 0, .string ⟨#[]⟩, .slice none 0 0] 24) := (by rw [hgr.block _ (by simp <;> omega) (by simp [Value.ownBlock] <;> omega)]; exact new_first _ _ _ _ (by simp)); obtain ⟨p0, p1, p2, p3⟩ := four_cells hp; have f0 := blk_free hp 0; have f1 := blk_free hp 1; have f2 := blk_free hp 2; have f3 := blk_free hp 3; have HP := Hd.mk hp; clear hp))
    all_goals
      go_wp2_with fail
      go_meet
    · have hs1 := hgr.size
      refine ⟨_, A2, c2, rfl, RI.make B0.out (by simp) (ext_alloc (Below.refl _ _) _).drew hN HF.out.1 HF.out.2 HLEN.out HK.out hrow hgr hat (by omega) (fun g hg => by have := row_lt hrow hg; omega) (by simp at hs1; omega) (ext_alloc (Below.refl _ _) _ |>.mono (by simp at hs1; omega)) (fun b hb _ => (Go.MapKept.heap_alloc _ _).2 b hb) (heap_alloc_new w2 _)⟩
    · refine ⟨_, A2, c2, rfl, RI.make B0.out (by simp) (ext_alloc (ext_alloc (Below.refl _ _) _) _).drew hN HF.out.1 HF.out.2 HLEN.out HK.out hrow hgr hat (by omega) (fun g hg => ?_) (by omega) (res_below (Below.refl _ _) (by omega) _ _ _ _) (fun b _ hb => res_other hb) (set4_blk HP.out _ _ _ _)⟩
      rw [hg] at hat
      rcases hat with e | e
      · have : g = w.heap.size + 1 + 1 := Option.some.inj e
        omega
      · have := Option.some.inj e
        simp at this; omega
    · refine ⟨_, A2, c2, rfl, RI.make B0.out (by simp) (ext_alloc (ext_alloc (Below.refl _ _) _) _).drew hN HF.out.1 HF.out.2 HLEN.out HK.out hrow hgr hat (by omega) (fun g hg => ?_) (by omega) (res_below (Below.refl _ _) (by omega) _ _ _ _) (fun b _ hb => res_other hb) (set4_blk HP.out _ _ _ _)⟩
      rw [hg] at hat
      rcases hat with e | e
      · have : g = w.heap.size + 1 + 1 + 1 := Option.some.inj e
        omega
      · have := Option.some.inj e
        simp at this; omega
  case rest =>
    obtain ⟨P, A2, c2, rfl, R⟩ := hcut
    obtain ⟨⟨x0, x1, x2, x3⟩, ⟨y0, y1, y2, y3⟩, ⟨f0, f1, f2, f3⟩, hz⟩ := R.boxes.facts
    obtain ⟨p0, p1, p2, p3⟩ := four_cells R.out
    have g0 := blk_free R.out 0
    have g3 := blk_free R.out 3
    have hP := R.lo
    have HR := Hd.mk R
    have q : ∀ m : Int, t.kind ≠ m → (t.kind == m) = false := fun m h => by simpa using h
    clear R
    rcases HT.out with hst | hbl
    · by_cases hpl : t.kind ≠ 52 ∧ t.kind ≠ 53 ∧ t.kind ≠ 54 ∧ t.kind ≠ 55
      · have h57 := isStmt_kind hst
        have HI := Hd.mk (inv_plain hst hpl)
        have q2 := q 52 (by omega)
        have q3 := q 53 (by omega)
        have q4 := q 54 (by omega)
        have q5 := q 55 (by omega)
        have HFI : Hd (⟨invKind t.kind, t.num, t.name, t.kids⟩ : Node).Fits := ⟨by have hr := invKind_range HF.out.1.kind0 HF.out.1.kind1; exact ⟨hr.1, hr.2, HF.out.1.num0, HF.out.1.num1, HF.out.1.name⟩⟩
        by_cases hc : t.kind = 50 ∨ t.kind = 51
        · rcases hc with hc | hc
          · have r0 : (t.kind == 50) = true := by simp [hc]
            rw [show invKind t.kind = 51 by rw [hc]; decide] at HI HFI
            clear hst hpl hc
            go_wp2_with fail
            have hset := HR.out.set 0 (.int .u8 51)
            have hfin := RI_fin hset.1 (hset.2 (In_rekind (u := ⟨51, t.num, t.name, t.kids⟩) HR.out.kids rfl HFI.out)) (.int .u8 51) (.int .i64 t.num) (.string t.name) (.slice A2 t.kids.length c2)
            refine bodyPost_ret (v := .agg #[.int .u8 51, .int .i64 t.num, .string t.name, .slice A2 t.kids.length c2]) ?_ rfl ⟨A2, c2, ?_, hfin.1, ?_⟩
            · have hcc := res_cells (u0 := .int .u8 51) (u1 := .int .i64 t.num) (u2 := .string t.name) (u3 := .slice A2 t.kids.length c2) (hset.1).res
              simp [results, Tryd.results38, go_sem, hcc]
            · rw [HI.out]
            · rw [HI.out]; exact hfin.2
          · have r0 : (t.kind == 50) = false := by simp [hc]
            have r1 : (t.kind == 51) = true := by simp [hc]
            rw [show invKind t.kind = 50 by rw [hc]; decide] at HI HFI
            clear hst hpl hc
            go_wp2_with fail
            have hset := HR.out.set 0 (.int .u8 50)
            have hfin := RI_fin hset.1 (hset.2 (In_rekind (u := ⟨50, t.num, t.name, t.kids⟩) HR.out.kids rfl HFI.out)) (.int .u8 50) (.int .i64 t.num) (.string t.name) (.slice A2 t.kids.length c2)
            refine bodyPost_ret (v := .agg #[.int .u8 50, .int .i64 t.num, .string t.name, .slice A2 t.kids.length c2]) ?_ rfl ⟨A2, c2, ?_, hfin.1, ?_⟩
            · have hcc := res_cells (u0 := .int .u8 50) (u1 := .int .i64 t.num) (u2 := .string t.name) (u3 := .slice A2 t.kids.length c2) (hset.1).res
              simp [results, Tryd.results38, go_sem, hcc]
            · rw [HI.out]
            · rw [HI.out]; exact hfin.2
        · have r0 := q 50 (by omega)
          have r1 := q 51 (by omega)
          have HV := Hd.mk (fun W => refKind_any t.kind W)
          by_cases hr : 40 ≤ t.kind ∧ t.kind ≤ 49
          · have hne : invKind t.kind ≠ 0 := by rw [invKind_eq]; repeat' split <;> omega
            have e : refKind t.kind = invKind t.kind := by simp [refKind, hr]
            rw [e] at HV
            generalize invKind t.kind = k2 at hne HV HI HFI
            have hn : (k2 != 0) = true := by simpa using hne
            have hn2 : (k2 == 0) = false := by simpa using hne
            clear hst hpl hc hr e
            go_wp2_with (go_at_call 58; refine (HV.out _).mono ?_; rintro e w1 ⟨rfl, hb1⟩; have HR1 := Hd.mk (HR.out.next hb1); obtain ⟨⟨a0, a1, a2, a3⟩, ⟨b0, b1, b2, b3⟩, ⟨d0, d1, d2, d3⟩, hz1⟩ := HR1.out.boxes.facts; obtain ⟨s0, s1, s2, s3⟩ := four_cells HR1.out.out; have t0 := blk_free HR1.out.out 0)
            have hset := HR1.out.set 0 (.int .u8 k2)
            have hfin := RI_fin hset.1 (hset.2 (In_rekind (u := ⟨k2, t.num, t.name, t.kids⟩) HR1.out.kids rfl HFI.out)) (.int .u8 k2) (.int .i64 t.num) (.string t.name) (.slice A2 t.kids.length c2)
            refine bodyPost_ret (v := .agg #[.int .u8 k2, .int .i64 t.num, .string t.name, .slice A2 t.kids.length c2]) ?_ rfl ⟨A2, c2, ?_, hfin.1, ?_⟩
            · have hcc := res_cells (u0 := .int .u8 k2) (u1 := .int .i64 t.num) (u2 := .string t.name) (u3 := .slice A2 t.kids.length c2) hset.1.res
              simp [results, Tryd.results38, go_sem, hcc]
            · rw [HI.out]
            · rw [HI.out]; exact hfin.2
          · have e : refKind t.kind = 0 := by simp only [refKind, hr, if_false]
            have e2 : invKind t.kind = t.kind := by
              rw [invKind_eq]
              repeat (rw [if_neg (by omega)])
            rw [e] at HV
            rw [e2] at HI HFI
            clear hst hpl hc hr e e2
            go_wp2_with (go_at_call 58; refine (HV.out _).mono ?_; rintro e w1 ⟨rfl, hb1⟩; have HR1 := Hd.mk (HR.out.next hb1); obtain ⟨⟨a0, a1, a2, a3⟩, ⟨b0, b1, b2, b3⟩, ⟨d0, d1, d2, d3⟩, hz1⟩ := HR1.out.boxes.facts; obtain ⟨s0, s1, s2, s3⟩ := four_cells HR1.out.out; have t0 := blk_free HR1.out.out 0)
            have hfin := RI_fin HR1.out.boxes (In_rekind (u := ⟨t.kind, t.num, t.name, t.kids⟩) HR1.out.kids rfl HFI.out) (.int .u8 t.kind) (.int .i64 t.num) (.string t.name) (.slice A2 t.kids.length c2)
            refine bodyPost_ret (v := .agg #[.int .u8 t.kind, .int .i64 t.num, .string t.name, .slice A2 t.kids.length c2]) ?_ rfl ⟨A2, c2, ?_, hfin.1, ?_⟩
            · have hcc := res_cells (u0 := .int .u8 t.kind) (u1 := .int .i64 t.num) (u2 := .string t.name) (u3 := .slice A2 t.kids.length c2) (HR1.out.boxes).res
              simp [results, Tryd.results38, go_sem, hcc]
            · rw [HI.out]
            · rw [HI.out]; exact hfin.2
      · by_cases h5 : t.kind = 55
        · obtain ⟨a, hka, hba, hinv⟩ := inv_one hst h5
          have q7 := q 57 (by omega)
          have q2 := q 52 (by omega)
          have q3 := q 53 (by omega)
          have q4 := q 54 (by omega)
          have q5 : (t.kind == 55) = true := by simp [h5]
          have HI := Hd.mk hinv
          have HIa := Hd.mk (IH.out a (by simp [hka]) (.inr hba))
          obtain ⟨b, o, A1, c1, rfl, e0, e1, e2, e3, h4⟩ := (HH.out.below HR.out.boxes.below).at_ 0 (by simp [hka])
          simp only [hka, List.getElem_cons_zero, Nat.zero_mul, Nat.add_zero] at e0 e1 e2 e3 h4
          have H4 := Hd.mk h4
          have hlt : (0 : Int) < (t.kids.length : Int) := by simp [hka]
          have HKA := Hd.mk hka
          have hNc : N0 ≤ wc.heap.size := by have := HR.out.boxes.size; omega
          have hPw : P < wc.heap.size := (Array.getElem?_eq_some_iff.1 HR.out.out).1
          clear hst hpl h4 hka hinv h5
          go_wp2_with (go_at_call 38; refine (HIa.out A1 c1 _ N0 hNc H4.out).mono ?_; rintro e w1 ⟨A3, c3, rfl, hb1, hi3⟩; have HR1 := Hd.mk (HR.out.next hb1); obtain ⟨⟨a0, a1, a2, a3⟩, ⟨b0, b1, b2, b3⟩, ⟨d0, d1, d2, d3⟩, hz1⟩ := HR1.out.boxes.facts; obtain ⟨s0, s1, s2, s3⟩ := four_cells HR1.out.out; have t3 := blk_free HR1.out.out 3; have HI3 := Hd.mk hi3; have hPw1 : P < w1.heap.size := Nat.lt_of_lt_of_le hPw hb1.size; clear hi3)
          have HI4 := HR1.out.next (ext_alloc (Below.refl _ _) (.cells #[.int .u8 a.inv.kind, .int .i64 a.inv.num, .string a.inv.name, .slice A3 a.inv.kids.length c3] 24))
          have hset := HI4.set 3 (.slice (some ⟨w1.heap.size, 0, none⟩) 1 1)
          have hnew : (⟨t.kind, t.num, t.name, [a.inv]⟩ : Node).In (w1.alloc (.cells #[.int .u8 a.inv.kind, .int .i64 a.inv.num, .string a.inv.name, .slice A3 a.inv.kids.length c3] 24)) (fun b => ¬ XX N0 w.heap.size P b) (some ⟨w1.heap.size, 0, none⟩) 1 :=
            In_new (u := ⟨t.kind, t.num, t.name, [a.inv]⟩) (hs := [⟨A3, c3, fun _ => True⟩]) ⟨HF.out.1.kind0, HF.out.1.kind1, HF.out.1.num0, HF.out.1.num1, HF.out.1.name⟩ (by simp) rfl (fun j h1 h2 => by
              obtain rfl : j = 0 := by simp at h1; omega
              exact Node.In.move (fun _ _ _ => rfl) (fun b hb _ => XX_off hb hN hP hPw) _ HI3.out) (XX_off (.inr (Nat.le_refl _)) hN hP (Nat.lt_of_lt_of_le hPw hb1.size)) rfl
          rw [alloc_set4 _ _ _ _ _ (by simp only [World.setCell, Array.size_modify]; omega), alloc_set _ _ hPw1]
          have hfin := RI_fin hset.1 (hset.2 hnew) (.int .u8 t.kind) (.int .i64 t.num) (.string t.name) (.slice (some ⟨w1.heap.size, 0, none⟩) 1 1)
          refine bodyPost_ret (v := .agg #[.int .u8 t.kind, .int .i64 t.num, .string t.name, .slice (some ⟨w1.heap.size, 0, none⟩) 1 1]) ?_ rfl ⟨some ⟨w1.heap.size, 0, none⟩, 1, ?_, hfin.1, ?_⟩
          · have hcc := res_cells (u0 := .int .u8 t.kind) (u1 := .int .i64 t.num) (u2 := .string t.name) (u3 := .slice (some ⟨w1.heap.size, 0, none⟩) 1 1) hset.1.res
            simp [results, Tryd.results38, go_sem, hcc]
          · rw [HI.out]; rfl
          · rw [HI.out]; exact hfin.2
        · by_cases h4 : t.kind = 52 ∨ t.kind = 53
          · obtain ⟨ka, kb, kc, kd, hka, hbb, hbc, hinv⟩ := inv_four hst h4
            have q7 := q 57 (by omega)
            obtain ⟨b, o, hA⟩ : ∃ b o, A = some ⟨b, o, none⟩ := by
              obtain ⟨b, o, _, _, hA, _⟩ := (HH.out.below HR.out.boxes.below).at_ 0 (by simp [hka])
              exact ⟨b, o, hA⟩
            obtain ⟨b0, o0, Ak0, ck0, hA0, e00, e01, e02, e03, h0⟩ := (HH.out.below HR.out.boxes.below).at_ 0 (by simp [hka])
            obtain ⟨rfl, rfl⟩ : b = b0 ∧ o = o0 := by rw [hA0] at hA; injection hA with hA; injection hA with h1 h2; exact ⟨h1.symm, h2.symm⟩
            simp only [hka, List.getElem_cons_zero, List.getElem_cons_succ, Nat.zero_mul, Nat.one_mul, Nat.add_zero, Nat.reduceMul] at e00 e01 e02 e03 h0
            have H0 := Hd.mk h0
            obtain ⟨b1, o1, Ak1, ck1, hA1, e10, e11, e12, e13, h1⟩ := (HH.out.below HR.out.boxes.below).at_ 1 (by simp [hka])
            obtain ⟨rfl, rfl⟩ : b = b1 ∧ o = o1 := by rw [hA1] at hA; injection hA with hA; injection hA with h1 h2; exact ⟨h1.symm, h2.symm⟩
            simp only [hka, List.getElem_cons_zero, List.getElem_cons_succ, Nat.zero_mul, Nat.one_mul, Nat.add_zero, Nat.reduceMul] at e10 e11 e12 e13 h1
            have H1 := Hd.mk h1
            obtain ⟨b2, o2, Ak2, ck2, hA2, e20, e21, e22, e23, h2⟩ := (HH.out.below HR.out.boxes.below).at_ 2 (by simp [hka])
            obtain ⟨rfl, rfl⟩ : b = b2 ∧ o = o2 := by rw [hA2] at hA; injection hA with hA; injection hA with h1 h2; exact ⟨h1.symm, h2.symm⟩
            simp only [hka, List.getElem_cons_zero, List.getElem_cons_succ, Nat.zero_mul, Nat.one_mul, Nat.add_zero, Nat.reduceMul] at e20 e21 e22 e23 h2
            have H2 := Hd.mk h2
            obtain ⟨b3, o3, Ak3, ck3, hA3, e30, e31, e32, e33, h3⟩ := (HH.out.below HR.out.boxes.below).at_ 3 (by simp [hka])
            obtain ⟨rfl, rfl⟩ : b = b3 ∧ o = o3 := by rw [hA3] at hA; injection hA with hA; injection hA with h1 h2; exact ⟨h1.symm, h2.symm⟩
            simp only [hka, List.getElem_cons_zero, List.getElem_cons_succ, Nat.zero_mul, Nat.one_mul, Nat.add_zero, Nat.reduceMul] at e30 e31 e32 e33 h3
            have H3 := Hd.mk h3
            clear hA0 hA1 hA2 hA3
            subst hA
            have HI := Hd.mk hinv
            have hlen4 : t.kids.length = 4 := by simp [hka]
            have HIb := Hd.mk (IH.out kb (by simp [hka]) (.inr hbb))
            have HIc := Hd.mk (IH.out kc (by simp [hka]) (.inr hbc))
            have z0 : (0 : Int) < (t.kids.length : Int) := by simp [hka]
            have z4 : 0 < t.kids.length := by simp [hka]
            have z5 : ¬ t.kids = [] := by simp [hka]
            have z6 : ¬ t.kids.length = 0 := by simp [hka]
            have z1 : (1 : Int) < (t.kids.length : Int) := by simp [hka]
            have z2 : (2 : Int) < (t.kids.length : Int) := by simp [hka]
            have z3 : (3 : Int) < (t.kids.length : Int) := by simp [hka]
            have HKA := Hd.mk hka
            have hNc : N0 ≤ wc.heap.size := by have := HR.out.boxes.size; omega
            have hPw : P < wc.heap.size := (Array.getElem?_eq_some_iff.1 HR.out.out).1
            have HB := World.block_lt_of_cell? _ _ e00
            clear hst hpl h0 h1 h2 h3 hka hinv h5 hlen4
            have HQ : (t.kind == 52) = true ∨ ((t.kind == 52) = false ∧ (t.kind == 53) = true) := by
              rcases h4 with h4 | h4 <;> simp [h4]
            clear h4
            have HX3 := World.block_lt_of_cell? _ _ x3
            have HS : Hd (∀ W, Below wc.heap.size wc W → W.cell? ⟨w.heap.size, 3, none⟩ = some (.slice (some ⟨b, o, none⟩) t.kids.length c) ∧ (W.cell? ⟨b, o, none⟩ = some (.int .u8 ka.kind) ∧ W.cell? ⟨b, o + 1, none⟩ = some (.int .i64 ka.num) ∧ W.cell? ⟨b, o + 2, none⟩ = some (.string ka.name) ∧ W.cell? ⟨b, o + 3, none⟩ = some (.slice Ak0 ka.kids.length ck0)) ∧ (W.cell? ⟨b, o + 4, none⟩ = some (.int .u8 kb.kind) ∧ W.cell? ⟨b, o + 4 + 1, none⟩ = some (.int .i64 kb.num) ∧ W.cell? ⟨b, o + 4 + 2, none⟩ = some (.string kb.name) ∧ W.cell? ⟨b, o + 4 + 3, none⟩ = some (.slice Ak1 kb.kids.length ck1)) ∧ (W.cell? ⟨b, o + 8, none⟩ = some (.int .u8 kc.kind) ∧ W.cell? ⟨b, o + 8 + 1, none⟩ = some (.int .i64 kc.num) ∧ W.cell? ⟨b, o + 8 + 2, none⟩ = some (.string kc.name) ∧ W.cell? ⟨b, o + 8 + 3, none⟩ = some (.slice Ak2 kc.kids.length ck2)) ∧ (W.cell? ⟨b, o + 12, none⟩ = some (.int .u8 kd.kind) ∧ W.cell? ⟨b, o + 12 + 1, none⟩ = some (.int .i64 kd.num) ∧ W.cell? ⟨b, o + 12 + 2, none⟩ = some (.string kd.name) ∧ W.cell? ⟨b, o + 12 + 3, none⟩ = some (.slice Ak3 kd.kids.length ck3))) := ⟨fun W hb => ⟨(hb.cell (p := ⟨w.heap.size, 3, none⟩) HX3).trans x3, ⟨(hb.cell (p := ⟨b, o, none⟩) HB).trans e00, (hb.cell (p := ⟨b, o + 1, none⟩) HB).trans e01, (hb.cell (p := ⟨b, o + 2, none⟩) HB).trans e02, (hb.cell (p := ⟨b, o + 3, none⟩) HB).trans e03⟩, ⟨(hb.cell (p := ⟨b, o + 4, none⟩) HB).trans e10, (hb.cell (p := ⟨b, o + 4 + 1, none⟩) HB).trans e11, (hb.cell (p := ⟨b, o + 4 + 2, none⟩) HB).trans e12, (hb.cell (p := ⟨b, o + 4 + 3, none⟩) HB).trans e13⟩, ⟨(hb.cell (p := ⟨b, o + 8, none⟩) HB).trans e20, (hb.cell (p := ⟨b, o + 8 + 1, none⟩) HB).trans e21, (hb.cell (p := ⟨b, o + 8 + 2, none⟩) HB).trans e22, (hb.cell (p := ⟨b, o + 8 + 3, none⟩) HB).trans e23⟩, ⟨(hb.cell (p := ⟨b, o + 12, none⟩) HB).trans e30, (hb.cell (p := ⟨b, o + 12 + 1, none⟩) HB).trans e31, (hb.cell (p := ⟨b, o + 12 + 2, none⟩) HB).trans e32, (hb.cell (p := ⟨b, o + 12 + 3, none⟩) HB).trans e33⟩⟩⟩
            have hbN : b < N0 := In_base (ok := fun x => x < N0) (b := b) HH.out (by rw [HKA.out]; simp)
            have hPb : P ≠ b := by omega
            have hPH : P ≠ w.heap.size := by omega
            have HSP : Hd (∀ (W : World) (v : Value), (W.cell? ⟨w.heap.size, 3, none⟩ = some (.slice (some ⟨b, o, none⟩) t.kids.length c) ∧ (W.cell? ⟨b, o, none⟩ = some (.int .u8 ka.kind) ∧ W.cell? ⟨b, o + 1, none⟩ = some (.int .i64 ka.num) ∧ W.cell? ⟨b, o + 2, none⟩ = some (.string ka.name) ∧ W.cell? ⟨b, o + 3, none⟩ = some (.slice Ak0 ka.kids.length ck0)) ∧ (W.cell? ⟨b, o + 4, none⟩ = some (.int .u8 kb.kind) ∧ W.cell? ⟨b, o + 4 + 1, none⟩ = some (.int .i64 kb.num) ∧ W.cell? ⟨b, o + 4 + 2, none⟩ = some (.string kb.name) ∧ W.cell? ⟨b, o + 4 + 3, none⟩ = some (.slice Ak1 kb.kids.length ck1)) ∧ (W.cell? ⟨b, o + 8, none⟩ = some (.int .u8 kc.kind) ∧ W.cell? ⟨b, o + 8 + 1, none⟩ = some (.int .i64 kc.num) ∧ W.cell? ⟨b, o + 8 + 2, none⟩ = some (.string kc.name) ∧ W.cell? ⟨b, o + 8 + 3, none⟩ = some (.slice Ak2 kc.kids.length ck2)) ∧ (W.cell? ⟨b, o + 12, none⟩ = some (.int .u8 kd.kind) ∧ W.cell? ⟨b, o + 12 + 1, none⟩ = some (.int .i64 kd.num) ∧ W.cell? ⟨b, o + 12 + 2, none⟩ = some (.string kd.name) ∧ W.cell? ⟨b, o + 12 + 3, none⟩ = some (.slice Ak3 kd.kids.length ck3))) → ((W.setCell ⟨P, 3, none⟩ v).cell? ⟨w.heap.size, 3, none⟩ = some (.slice (some ⟨b, o, none⟩) t.kids.length c) ∧ ((W.setCell ⟨P, 3, none⟩ v).cell? ⟨b, o, none⟩ = some (.int .u8 ka.kind) ∧ (W.setCell ⟨P, 3, none⟩ v).cell? ⟨b, o + 1, none⟩ = some (.int .i64 ka.num) ∧ (W.setCell ⟨P, 3, none⟩ v).cell? ⟨b, o + 2, none⟩ = some (.string ka.name) ∧ (W.setCell ⟨P, 3, none⟩ v).cell? ⟨b, o + 3, none⟩ = some (.slice Ak0 ka.kids.length ck0)) ∧ ((W.setCell ⟨P, 3, none⟩ v).cell? ⟨b, o + 4, none⟩ = some (.int .u8 kb.kind) ∧ (W.setCell ⟨P, 3, none⟩ v).cell? ⟨b, o + 4 + 1, none⟩ = some (.int .i64 kb.num) ∧ (W.setCell ⟨P, 3, none⟩ v).cell? ⟨b, o + 4 + 2, none⟩ = some (.string kb.name) ∧ (W.setCell ⟨P, 3, none⟩ v).cell? ⟨b, o + 4 + 3, none⟩ = some (.slice Ak1 kb.kids.length ck1)) ∧ ((W.setCell ⟨P, 3, none⟩ v).cell? ⟨b, o + 8, none⟩ = some (.int .u8 kc.kind) ∧ (W.setCell ⟨P, 3, none⟩ v).cell? ⟨b, o + 8 + 1, none⟩ = some (.int .i64 kc.num) ∧ (W.setCell ⟨P, 3, none⟩ v).cell? ⟨b, o + 8 + 2, none⟩ = some (.string kc.name) ∧ (W.setCell ⟨P, 3, none⟩ v).cell? ⟨b, o + 8 + 3, none⟩ = some (.slice Ak2 kc.kids.length ck2)) ∧ ((W.setCell ⟨P, 3, none⟩ v).cell? ⟨b, o + 12, none⟩ = some (.int .u8 kd.kind) ∧ (W.setCell ⟨P, 3, none⟩ v).cell? ⟨b, o + 12 + 1, none⟩ = some (.int .i64 kd.num) ∧ (W.setCell ⟨P, 3, none⟩ v).cell? ⟨b, o + 12 + 2, none⟩ = some (.string kd.name) ∧ (W.setCell ⟨P, 3, none⟩ v).cell? ⟨b, o + 12 + 3, none⟩ = some (.slice Ak3 kd.kids.length ck3)))) := ⟨fun W v hS => by obtain ⟨x3, ⟨e00, e01, e02, e03⟩, ⟨e10, e11, e12, e13⟩, ⟨e20, e21, e22, e23⟩, ⟨e30, e31, e32, e33⟩⟩ := hS; exact ⟨(set_keep hPH.symm _ _ _).trans x3, ⟨(set_keep hPb.symm _ _ _).trans e00, (set_keep hPb.symm _ _ _).trans e01, (set_keep hPb.symm _ _ _).trans e02, (set_keep hPb.symm _ _ _).trans e03⟩, ⟨(set_keep hPb.symm _ _ _).trans e10, (set_keep hPb.symm _ _ _).trans e11, (set_keep hPb.symm _ _ _).trans e12, (set_keep hPb.symm _ _ _).trans e13⟩, ⟨(set_keep hPb.symm _ _ _).trans e20, (set_keep hPb.symm _ _ _).trans e21, (set_keep hPb.symm _ _ _).trans e22, (set_keep hPb.symm _ _ _).trans e23⟩, ⟨(set_keep hPb.symm _ _ _).trans e30, (set_keep hPb.symm _ _ _).trans e31, (set_keep hPb.symm _ _ _).trans e32, (set_keep hPb.symm _ _ _).trans e33⟩⟩⟩
            have HIb2 := Hd.mk (fun W (hb : Below wc.heap.size wc W) => HIb.out Ak1 ck1 W N0 (Nat.le_trans hNc hb.size) (H1.out.below hb))
            have HIc2 := Hd.mk (fun W (hb : Below wc.heap.size wc W) => HIc.out Ak2 ck2 W N0 (Nat.le_trans hNc hb.size) (H2.out.below hb))
            rcases HQ with HQ | ⟨HQ0, HQ⟩
            all_goals
              go_wp2_with fail
              go_region_held3 (fun W' => W'.cell? ⟨w.heap.size, 3, none⟩ = some (.slice (some ⟨b, o, none⟩) t.kids.length c) ∧ (W'.cell? ⟨b, o, none⟩ = some (.int .u8 ka.kind) ∧ W'.cell? ⟨b, o + 1, none⟩ = some (.int .i64 ka.num) ∧ W'.cell? ⟨b, o + 2, none⟩ = some (.string ka.name) ∧ W'.cell? ⟨b, o + 3, none⟩ = some (.slice Ak0 ka.kids.length ck0)) ∧ (W'.cell? ⟨b, o + 4, none⟩ = some (.int .u8 kb.kind) ∧ W'.cell? ⟨b, o + 4 + 1, none⟩ = some (.int .i64 kb.num) ∧ W'.cell? ⟨b, o + 4 + 2, none⟩ = some (.string kb.name) ∧ W'.cell? ⟨b, o + 4 + 3, none⟩ = some (.slice Ak1 kb.kids.length ck1)) ∧ (W'.cell? ⟨b, o + 8, none⟩ = some (.int .u8 kc.kind) ∧ W'.cell? ⟨b, o + 8 + 1, none⟩ = some (.int .i64 kc.num) ∧ W'.cell? ⟨b, o + 8 + 2, none⟩ = some (.string kc.name) ∧ W'.cell? ⟨b, o + 8 + 3, none⟩ = some (.slice Ak2 kc.kids.length ck2)) ∧ (W'.cell? ⟨b, o + 12, none⟩ = some (.int .u8 kd.kind) ∧ W'.cell? ⟨b, o + 12 + 1, none⟩ = some (.int .i64 kd.num) ∧ W'.cell? ⟨b, o + 12 + 2, none⟩ = some (.string kd.name) ∧ W'.cell? ⟨b, o + 12 + 3, none⟩ = some (.slice Ak3 kd.kids.length ck3)))
                (first
                  | with_reducible exact HS.out _ (Below.refl _ _).drew
                  | with_reducible exact HS.out _ HB1.out
                  | with_reducible exact HS.out _ HB2.out
                  | with_reducible exact HS.out _ (ext_alloc HB2.out _)
                  | with_reducible exact HSP.out _ _ (HS.out _ (ext_alloc HB2.out _))
                  | go_keep)
                (first
                  | (have hbb := HB1.out; go_at_call 38; refine (HIc2.out _ HB1.out).mono ?_; rintro e w2 ⟨Ac, cc, rfl, hb2, hic⟩; have hbw2 : Below wc.heap.size wc w2 := ext_trans HB1.out hb2; obtain ⟨x3, ⟨e00, e01, e02, e03⟩, ⟨e10, e11, e12, e13⟩, ⟨e20, e21, e22, e23⟩, ⟨e30, e31, e32, e33⟩⟩ := HS.out _ hbw2; have HIC := Hd.mk hic; have HB2 := Hd.mk hbw2; have HB12 := Hd.mk hb2; have HR1 := Hd.mk (HR.out.next hbw2); obtain ⟨⟨a0, a1, a2, a3⟩, ⟨b0, b1, b2, b3⟩, ⟨d0, d1, d2, d3⟩, hz1⟩ := HR1.out.boxes.facts; obtain ⟨s0, s1, s2, s3⟩ := four_cells HR1.out.out; have t3 := blk_free HR1.out.out 3; have hPw2 : P < w2.heap.size := Nat.lt_of_lt_of_le hPw hbw2.size; clear hb2 hic hbw2)
                  | (go_at_call 38; refine (HIb2.out _ ((Below.refl _ _).drew)).mono ?_; rintro e w1 ⟨Ab, cb, rfl, hb1, hib⟩; have hbw1 : Below wc.heap.size wc w1 := ext_trans ((Below.refl _ _).drew) hb1; obtain ⟨x3, ⟨e00, e01, e02, e03⟩, ⟨e10, e11, e12, e13⟩, ⟨e20, e21, e22, e23⟩, ⟨e30, e31, e32, e33⟩⟩ := HS.out _ hbw1; have HIB := Hd.mk hib; have HB1 := Hd.mk hbw1; have hPw1 : P < w1.heap.size := Nat.lt_of_lt_of_le hPw hbw1.size; clear hb1 hib hbw1))
              go_wp2_with fail
              rw [alloc_set4 _ _ _ _ _ (by simp only [World.setCell, Array.size_modify]; omega), alloc_set _ _ hPw2]
              have HI4 := HR1.out.next (ext_alloc (Below.refl _ _) (.cells #[.int .u8 kd.kind, .int .i64 kd.num, .string kd.name, .slice Ak3 kd.kids.length ck3, .int .u8 kb.inv.kind, .int .i64 kb.inv.num, .string kb.inv.name, .slice Ab kb.inv.kids.length cb, .int .u8 kc.inv.kind, .int .i64 kc.inv.num, .string kc.inv.name, .slice Ac kc.inv.kids.length cc, .int .u8 ka.kind, .int .i64 ka.num, .string ka.name, .slice Ak0 ka.kids.length ck0] 24))
              have hset := HI4.set 3 (.slice (some ⟨w2.heap.size, 0, none⟩) 4 4)
              have hnew : (⟨t.kind, t.num, t.name, [kd, kb.inv, kc.inv, ka]⟩ : Node).In (w2.alloc (.cells #[.int .u8 kd.kind, .int .i64 kd.num, .string kd.name, .slice Ak3 kd.kids.length ck3, .int .u8 kb.inv.kind, .int .i64 kb.inv.num, .string kb.inv.name, .slice Ab kb.inv.kids.length cb, .int .u8 kc.inv.kind, .int .i64 kc.inv.num, .string kc.inv.name, .slice Ac kc.inv.kids.length cc, .int .u8 ka.kind, .int .i64 ka.num, .string ka.name, .slice Ak0 ka.kids.length ck0] 24)) (fun b => ¬ XX N0 w.heap.size P b) (some ⟨w2.heap.size, 0, none⟩) 4 :=
                In_new (u := ⟨t.kind, t.num, t.name, [kd, kb.inv, kc.inv, ka]⟩) (hs := [⟨Ak3, ck3, fun _ => True⟩, ⟨Ab, cb, fun _ => True⟩, ⟨Ac, cc, fun _ => True⟩, ⟨Ak0, ck0, fun _ => True⟩]) ⟨HF.out.1.kind0, HF.out.1.kind1, HF.out.1.num0, HF.out.1.num1, HF.out.1.name⟩ (by simp) rfl (fun j h1 h2 => by
                  rcases (show j = 0 ∨ j = 1 ∨ j = 2 ∨ j = 3 by simp at h1; omega) with rfl | rfl | rfl | rfl
                  · exact Node.In.move (fun _ _ _ => rfl) (fun b hb _ => XX_off (.inl hb) hN hP hPw) _ (H3.out.below HB2.out)
                  · exact Node.In.move (fun _ _ _ => rfl) (fun b hb _ => XX_off hb hN hP hPw) _ (HIB.out.below HB12.out)
                  · exact Node.In.move (fun _ _ _ => rfl) (fun b hb _ => XX_off hb hN hP hPw1) _ HIC.out
                  · exact Node.In.move (fun _ _ _ => rfl) (fun b hb _ => XX_off (.inl hb) hN hP hPw) _ (H0.out.below HB2.out)) (XX_off (.inr (Nat.le_refl _)) hN hP hPw2) rfl
              have hfin := RI_fin hset.1 (hset.2 hnew) (.int .u8 t.kind) (.int .i64 t.num) (.string t.name) (.slice (some ⟨w2.heap.size, 0, none⟩) 4 4)
              refine bodyPost_ret (v := .agg #[.int .u8 t.kind, .int .i64 t.num, .string t.name, .slice (some ⟨w2.heap.size, 0, none⟩) 4 4]) ?_ rfl ⟨some ⟨w2.heap.size, 0, none⟩, 4, ?_, hfin.1, ?_⟩
              · have hcc := res_cells (u0 := .int .u8 t.kind) (u1 := .int .i64 t.num) (u2 := .string t.name) (u3 := .slice (some ⟨w2.heap.size, 0, none⟩) 4 4) hset.1.res
                simp [results, Tryd.results38, go_sem, hcc]
              · rw [HI.out]; rfl
              · rw [HI.out]; exact hfin.2
          · have h6 : t.kind = 54 := by omega
            obtain ⟨ka, kb, kc, hka, hbb, hinv⟩ := inv_three hst h6
            have q7 := q 57 (by omega)
            have q2 := q 52 (by omega)
            have q3 := q 53 (by omega)
            have q4 : (t.kind == 54) = true := by simp [h6]
            obtain ⟨b, o, hA⟩ : ∃ b o, A = some ⟨b, o, none⟩ := by
              obtain ⟨b, o, _, _, hA, _⟩ := (HH.out.below HR.out.boxes.below).at_ 0 (by simp [hka])
              exact ⟨b, o, hA⟩
            obtain ⟨b0, o0, Ak0, ck0, hA0, e00, e01, e02, e03, h0⟩ := (HH.out.below HR.out.boxes.below).at_ 0 (by simp [hka])
            obtain ⟨rfl, rfl⟩ : b = b0 ∧ o = o0 := by rw [hA0] at hA; injection hA with hA; injection hA with h1 h2; exact ⟨h1.symm, h2.symm⟩
            simp only [hka, List.getElem_cons_zero, List.getElem_cons_succ, Nat.zero_mul, Nat.one_mul, Nat.add_zero, Nat.reduceMul] at e00 e01 e02 e03 h0
            have H0 := Hd.mk h0
            obtain ⟨b1, o1, Ak1, ck1, hA1, e10, e11, e12, e13, h1⟩ := (HH.out.below HR.out.boxes.below).at_ 1 (by simp [hka])
            obtain ⟨rfl, rfl⟩ : b = b1 ∧ o = o1 := by rw [hA1] at hA; injection hA with hA; injection hA with h1 h2; exact ⟨h1.symm, h2.symm⟩
            simp only [hka, List.getElem_cons_zero, List.getElem_cons_succ, Nat.zero_mul, Nat.one_mul, Nat.add_zero, Nat.reduceMul] at e10 e11 e12 e13 h1
            have H1 := Hd.mk h1
            obtain ⟨b2, o2, Ak2, ck2, hA2, e20, e21, e22, e23, h2⟩ := (HH.out.below HR.out.boxes.below).at_ 2 (by simp [hka])
            obtain ⟨rfl, rfl⟩ : b = b2 ∧ o = o2 := by rw [hA2] at hA; injection hA with hA; injection hA with h1 h2; exact ⟨h1.symm, h2.symm⟩
            simp only [hka, List.getElem_cons_zero, List.getElem_cons_succ, Nat.zero_mul, Nat.one_mul, Nat.add_zero, Nat.reduceMul] at e20 e21 e22 e23 h2
            have H2 := Hd.mk h2
            clear hA0 hA1 hA2
            subst hA
            have HI := Hd.mk hinv
            have HIb := Hd.mk (IH.out kb (by simp [hka]) (.inr hbb))
            have z0 : (0 : Int) < (t.kids.length : Int) := by simp [hka]
            have z4 : 0 < t.kids.length := by simp [hka]
            have z5 : ¬ t.kids = [] := by simp [hka]
            have z6 : ¬ t.kids.length = 0 := by simp [hka]
            have z1 : (1 : Int) < (t.kids.length : Int) := by simp [hka]
            have z2 : (2 : Int) < (t.kids.length : Int) := by simp [hka]
            have HKA := Hd.mk hka
            have hNc : N0 ≤ wc.heap.size := by have := HR.out.boxes.size; omega
            have hPw : P < wc.heap.size := (Array.getElem?_eq_some_iff.1 HR.out.out).1
            have HB := World.block_lt_of_cell? _ _ e00
            clear hst hpl h0 h1 h2 hka hinv h5 h4 h6
            have HX3 := World.block_lt_of_cell? _ _ x3
            have HS : Hd (∀ W, Below wc.heap.size wc W → W.cell? ⟨w.heap.size, 3, none⟩ = some (.slice (some ⟨b, o, none⟩) t.kids.length c) ∧ (W.cell? ⟨b, o, none⟩ = some (.int .u8 ka.kind) ∧ W.cell? ⟨b, o + 1, none⟩ = some (.int .i64 ka.num) ∧ W.cell? ⟨b, o + 2, none⟩ = some (.string ka.name) ∧ W.cell? ⟨b, o + 3, none⟩ = some (.slice Ak0 ka.kids.length ck0)) ∧ (W.cell? ⟨b, o + 4, none⟩ = some (.int .u8 kb.kind) ∧ W.cell? ⟨b, o + 4 + 1, none⟩ = some (.int .i64 kb.num) ∧ W.cell? ⟨b, o + 4 + 2, none⟩ = some (.string kb.name) ∧ W.cell? ⟨b, o + 4 + 3, none⟩ = some (.slice Ak1 kb.kids.length ck1)) ∧ (W.cell? ⟨b, o + 8, none⟩ = some (.int .u8 kc.kind) ∧ W.cell? ⟨b, o + 8 + 1, none⟩ = some (.int .i64 kc.num) ∧ W.cell? ⟨b, o + 8 + 2, none⟩ = some (.string kc.name) ∧ W.cell? ⟨b, o + 8 + 3, none⟩ = some (.slice Ak2 kc.kids.length ck2))) := ⟨fun W hb => ⟨(hb.cell (p := ⟨w.heap.size, 3, none⟩) HX3).trans x3, ⟨(hb.cell (p := ⟨b, o, none⟩) HB).trans e00, (hb.cell (p := ⟨b, o + 1, none⟩) HB).trans e01, (hb.cell (p := ⟨b, o + 2, none⟩) HB).trans e02, (hb.cell (p := ⟨b, o + 3, none⟩) HB).trans e03⟩, ⟨(hb.cell (p := ⟨b, o + 4, none⟩) HB).trans e10, (hb.cell (p := ⟨b, o + 4 + 1, none⟩) HB).trans e11, (hb.cell (p := ⟨b, o + 4 + 2, none⟩) HB).trans e12, (hb.cell (p := ⟨b, o + 4 + 3, none⟩) HB).trans e13⟩, ⟨(hb.cell (p := ⟨b, o + 8, none⟩) HB).trans e20, (hb.cell (p := ⟨b, o + 8 + 1, none⟩) HB).trans e21, (hb.cell (p := ⟨b, o + 8 + 2, none⟩) HB).trans e22, (hb.cell (p := ⟨b, o + 8 + 3, none⟩) HB).trans e23⟩⟩⟩
            have hbN : b < N0 := In_base (ok := fun x => x < N0) (b := b) HH.out (by rw [HKA.out]; simp)
            have hPb : P ≠ b := by omega
            have hPH : P ≠ w.heap.size := by omega
            have HSP : Hd (∀ (W : World) (v : Value), (W.cell? ⟨w.heap.size, 3, none⟩ = some (.slice (some ⟨b, o, none⟩) t.kids.length c) ∧ (W.cell? ⟨b, o, none⟩ = some (.int .u8 ka.kind) ∧ W.cell? ⟨b, o + 1, none⟩ = some (.int .i64 ka.num) ∧ W.cell? ⟨b, o + 2, none⟩ = some (.string ka.name) ∧ W.cell? ⟨b, o + 3, none⟩ = some (.slice Ak0 ka.kids.length ck0)) ∧ (W.cell? ⟨b, o + 4, none⟩ = some (.int .u8 kb.kind) ∧ W.cell? ⟨b, o + 4 + 1, none⟩ = some (.int .i64 kb.num) ∧ W.cell? ⟨b, o + 4 + 2, none⟩ = some (.string kb.name) ∧ W.cell? ⟨b, o + 4 + 3, none⟩ = some (.slice Ak1 kb.kids.length ck1)) ∧ (W.cell? ⟨b, o + 8, none⟩ = some (.int .u8 kc.kind) ∧ W.cell? ⟨b, o + 8 + 1, none⟩ = some (.int .i64 kc.num) ∧ W.cell? ⟨b, o + 8 + 2, none⟩ = some (.string kc.name) ∧ W.cell? ⟨b, o + 8 + 3, none⟩ = some (.slice Ak2 kc.kids.length ck2))) → ((W.setCell ⟨P, 3, none⟩ v).cell? ⟨w.heap.size, 3, none⟩ = some (.slice (some ⟨b, o, none⟩) t.kids.length c) ∧ ((W.setCell ⟨P, 3, none⟩ v).cell? ⟨b, o, none⟩ = some (.int .u8 ka.kind) ∧ (W.setCell ⟨P, 3, none⟩ v).cell? ⟨b, o + 1, none⟩ = some (.int .i64 ka.num) ∧ (W.setCell ⟨P, 3, none⟩ v).cell? ⟨b, o + 2, none⟩ = some (.string ka.name) ∧ (W.setCell ⟨P, 3, none⟩ v).cell? ⟨b, o + 3, none⟩ = some (.slice Ak0 ka.kids.length ck0)) ∧ ((W.setCell ⟨P, 3, none⟩ v).cell? ⟨b, o + 4, none⟩ = some (.int .u8 kb.kind) ∧ (W.setCell ⟨P, 3, none⟩ v).cell? ⟨b, o + 4 + 1, none⟩ = some (.int .i64 kb.num) ∧ (W.setCell ⟨P, 3, none⟩ v).cell? ⟨b, o + 4 + 2, none⟩ = some (.string kb.name) ∧ (W.setCell ⟨P, 3, none⟩ v).cell? ⟨b, o + 4 + 3, none⟩ = some (.slice Ak1 kb.kids.length ck1)) ∧ ((W.setCell ⟨P, 3, none⟩ v).cell? ⟨b, o + 8, none⟩ = some (.int .u8 kc.kind) ∧ (W.setCell ⟨P, 3, none⟩ v).cell? ⟨b, o + 8 + 1, none⟩ = some (.int .i64 kc.num) ∧ (W.setCell ⟨P, 3, none⟩ v).cell? ⟨b, o + 8 + 2, none⟩ = some (.string kc.name) ∧ (W.setCell ⟨P, 3, none⟩ v).cell? ⟨b, o + 8 + 3, none⟩ = some (.slice Ak2 kc.kids.length ck2)))) := ⟨fun W v hS => by obtain ⟨x3, ⟨e00, e01, e02, e03⟩, ⟨e10, e11, e12, e13⟩, ⟨e20, e21, e22, e23⟩⟩ := hS; exact ⟨(set_keep hPH.symm _ _ _).trans x3, ⟨(set_keep hPb.symm _ _ _).trans e00, (set_keep hPb.symm _ _ _).trans e01, (set_keep hPb.symm _ _ _).trans e02, (set_keep hPb.symm _ _ _).trans e03⟩, ⟨(set_keep hPb.symm _ _ _).trans e10, (set_keep hPb.symm _ _ _).trans e11, (set_keep hPb.symm _ _ _).trans e12, (set_keep hPb.symm _ _ _).trans e13⟩, ⟨(set_keep hPb.symm _ _ _).trans e20, (set_keep hPb.symm _ _ _).trans e21, (set_keep hPb.symm _ _ _).trans e22, (set_keep hPb.symm _ _ _).trans e23⟩⟩⟩
            have HIb2 := Hd.mk (fun W (hb : Below wc.heap.size wc W) => HIb.out Ak1 ck1 W N0 (Nat.le_trans hNc hb.size) (H1.out.below hb))
            go_wp2_with fail
            go_region_held3 (fun W' => W'.cell? ⟨w.heap.size, 3, none⟩ = some (.slice (some ⟨b, o, none⟩) t.kids.length c) ∧ (W'.cell? ⟨b, o, none⟩ = some (.int .u8 ka.kind) ∧ W'.cell? ⟨b, o + 1, none⟩ = some (.int .i64 ka.num) ∧ W'.cell? ⟨b, o + 2, none⟩ = some (.string ka.name) ∧ W'.cell? ⟨b, o + 3, none⟩ = some (.slice Ak0 ka.kids.length ck0)) ∧ (W'.cell? ⟨b, o + 4, none⟩ = some (.int .u8 kb.kind) ∧ W'.cell? ⟨b, o + 4 + 1, none⟩ = some (.int .i64 kb.num) ∧ W'.cell? ⟨b, o + 4 + 2, none⟩ = some (.string kb.name) ∧ W'.cell? ⟨b, o + 4 + 3, none⟩ = some (.slice Ak1 kb.kids.length ck1)) ∧ (W'.cell? ⟨b, o + 8, none⟩ = some (.int .u8 kc.kind) ∧ W'.cell? ⟨b, o + 8 + 1, none⟩ = some (.int .i64 kc.num) ∧ W'.cell? ⟨b, o + 8 + 2, none⟩ = some (.string kc.name) ∧ W'.cell? ⟨b, o + 8 + 3, none⟩ = some (.slice Ak2 kc.kids.length ck2)))
                (first
                  | with_reducible exact HS.out _ (Below.refl _ _).drew
                  | with_reducible exact HS.out _ HB1.out
                  | with_reducible exact HS.out _ (ext_alloc HB1.out _)
                  | with_reducible exact HSP.out _ _ (HS.out _ (ext_alloc HB1.out _))
                  | go_keep)
                (first
                  | (go_at_call 38; refine (HIb2.out _ ((Below.refl _ _).drew)).mono ?_; rintro e w1 ⟨Ab, cb, rfl, hb1, hib⟩; have hbw1 : Below wc.heap.size wc w1 := ext_trans ((Below.refl _ _).drew) hb1; obtain ⟨x3, ⟨e00, e01, e02, e03⟩, ⟨e10, e11, e12, e13⟩, ⟨e20, e21, e22, e23⟩⟩ := HS.out _ hbw1; have HIB := Hd.mk hib; have HB1 := Hd.mk hbw1; have HR1 := Hd.mk (HR.out.next hbw1); obtain ⟨⟨a0, a1, a2, a3⟩, ⟨b0, b1, b2, b3⟩, ⟨d0, d1, d2, d3⟩, hz1⟩ := HR1.out.boxes.facts; obtain ⟨s0, s1, s2, s3⟩ := four_cells HR1.out.out; have t3 := blk_free HR1.out.out 3; have hPw1 : P < w1.heap.size := Nat.lt_of_lt_of_le hPw hbw1.size; clear hb1 hib hbw1))
            go_wp2_with fail
            rw [alloc_set4 _ _ _ _ _ (by simp only [World.setCell, Array.size_modify]; omega), alloc_set _ _ hPw1]
            have HI4 := HR1.out.next (ext_alloc (Below.refl _ _) (.cells #[.int .u8 kc.kind, .int .i64 kc.num, .string kc.name, .slice Ak2 kc.kids.length ck2, .int .u8 kb.inv.kind, .int .i64 kb.inv.num, .string kb.inv.name, .slice Ab kb.inv.kids.length cb, .int .u8 ka.kind, .int .i64 ka.num, .string ka.name, .slice Ak0 ka.kids.length ck0] 24))
            have hset := HI4.set 3 (.slice (some ⟨w1.heap.size, 0, none⟩) 3 3)
            have hnew : (⟨t.kind, t.num, t.name, [kc, kb.inv, ka]⟩ : Node).In (w1.alloc (.cells #[.int .u8 kc.kind, .int .i64 kc.num, .string kc.name, .slice Ak2 kc.kids.length ck2, .int .u8 kb.inv.kind, .int .i64 kb.inv.num, .string kb.inv.name, .slice Ab kb.inv.kids.length cb, .int .u8 ka.kind, .int .i64 ka.num, .string ka.name, .slice Ak0 ka.kids.length ck0] 24)) (fun b => ¬ XX N0 w.heap.size P b) (some ⟨w1.heap.size, 0, none⟩) 3 :=
              In_new (u := ⟨t.kind, t.num, t.name, [kc, kb.inv, ka]⟩) (hs := [⟨Ak2, ck2, fun _ => True⟩, ⟨Ab, cb, fun _ => True⟩, ⟨Ak0, ck0, fun _ => True⟩]) ⟨HF.out.1.kind0, HF.out.1.kind1, HF.out.1.num0, HF.out.1.num1, HF.out.1.name⟩ (by simp) rfl (fun j h1 h2 => by
                rcases (show j = 0 ∨ j = 1 ∨ j = 2 by simp at h1; omega) with rfl | rfl | rfl
                · exact Node.In.move (fun _ _ _ => rfl) (fun b hb _ => XX_off (.inl hb) hN hP hPw) _ (H2.out.below HB1.out)
                · exact Node.In.move (fun _ _ _ => rfl) (fun b hb _ => XX_off hb hN hP hPw) _ HIB.out
                · exact Node.In.move (fun _ _ _ => rfl) (fun b hb _ => XX_off (.inl hb) hN hP hPw) _ (H0.out.below HB1.out)) (XX_off (.inr (Nat.le_refl _)) hN hP hPw1) rfl
            have hfin := RI_fin hset.1 (hset.2 hnew) (.int .u8 t.kind) (.int .i64 t.num) (.string t.name) (.slice (some ⟨w1.heap.size, 0, none⟩) 3 3)
            refine bodyPost_ret (v := .agg #[.int .u8 t.kind, .int .i64 t.num, .string t.name, .slice (some ⟨w1.heap.size, 0, none⟩) 3 3]) ?_ rfl ⟨some ⟨w1.heap.size, 0, none⟩, 3, ?_, hfin.1, ?_⟩
            · have hcc := res_cells (u0 := .int .u8 t.kind) (u1 := .int .i64 t.num) (u2 := .string t.name) (u3 := .slice (some ⟨w1.heap.size, 0, none⟩) 3 3) hset.1.res
              simp [results, Tryd.results38, go_sem, hcc]
            · rw [HI.out]; rfl
            · rw [HI.out]; exact hfin.2
    · have h57 := isBlock_kind hbl
      have e57 : t.kind = 57 := by simpa using h57
      have HI := Hd.mk (inv_block hbl)
      have HKS := Hd.mk (isBlock_kids hbl)
      have HRB := Hd.mk HR.out.block
      clear hbl e57
      go_wp2_with fail
      go_loopw [4] (fun v4 W => ∃ (i : Nat) (x : Int) (A3 : Option Addr) (c3 : Nat) (acc : List Node) (hs2 : List Hdr), v4 = .int .i64 x ∧ x = (i : Int) - 1 ∧ i ≤ t.kids.length ∧ Hd (acc = ((t.kids.drop i).map Node.inv).reverse) ∧ RB w W N0 t A c P A3 c3 acc hs2) (fun v4 _ => (intOf v4 + 1).toNat)
      case atStart => exact ⟨t.kids.length, _, none, 0, [], [], rfl, rfl, Nat.le_refl _, ⟨by simp⟩, HRB.out⟩
      case round =>
        obtain ⟨i, x, A3, c3, acc, hs2, rfl, hx, hi3, HA, RR⟩ := hrel
        have hPr : P < wr.heap.size := (Array.getElem?_eq_some_iff.1 RR.out).1
        obtain ⟨⟨x0, x1, x2, x3⟩, ⟨y0, y1, y2, y3⟩, ⟨f0, f1, f2, f3⟩, hz⟩ := RR.boxes.facts
        obtain ⟨p0, p1, p2, p3⟩ := four_cells RR.out
        have g3 := blk_free RR.out 3
        have HRR := Hd.mk RR
        have hal : acc.length = t.kids.length - i := by rw [HA.out]; simp
        rcases i with _ | k
        · obtain rfl : x = -1 := by omega
          have HAL := Hd.mk hal
          clear RR hal hx hi3
          go_wp2_with fail
          have hlen : acc.length = t.kids.length := by rw [HAL.out]; omega
          have hacc : acc = (t.kids.map Node.inv).reverse := by have := HA.out; simpa using this
          have hu := HRR.out.parts.reads (t := ⟨t.kind, t.num, t.name, acc⟩) ⟨HF.out.1.kind0, HF.out.1.kind1, HF.out.1.num0, HF.out.1.num1, HF.out.1.name⟩ (by show acc.length * 56 ≤ _; rw [hlen]; exact HF.out.2)
          have hfin := RI_fin HRR.out.boxes hu (.int .u8 t.kind) (.int .i64 t.num) (.string t.name) (.slice A3 acc.length c3)
          refine bodyPost_ret (v := .agg #[.int .u8 t.kind, .int .i64 t.num, .string t.name, .slice A3 acc.length c3]) ?_ rfl ⟨A3, c3, ?_, hfin.1, ?_⟩
          · have hcc := res_cells (u0 := .int .u8 t.kind) (u1 := .int .i64 t.num) (u2 := .string t.name) (u3 := .slice A3 acc.length c3) HRR.out.boxes.res
            simp [results, Tryd.results38, go_sem, hcc]
          · rw [HI.out, ← hacc]
          · rw [HI.out, ← hacc]; exact hfin.2
        · obtain rfl : x = (k : Int) := by omega
          have hkl : k < t.kids.length := by omega
          have k0 : (0 : Int) ≤ (k : Int) := by omega
          have k1 : (k : Int) < (t.kids.length : Int) := by omega
          obtain ⟨b, o, A1, c1, rfl, e0, e1, e2, e3, h4⟩ := (HH.out.below RR.boxes.below).at_ k hkl
          have H4 := Hd.mk h4
          have hik := IH.out t.kids[k] (List.getElem_mem _) (.inl (HKS.out _ (List.getElem_mem _)))
          unfold RefInvRuns at hik
          have hNr : N0 ≤ wr.heap.size := by have := RR.boxes.size; omega
          have hmem : t.kids.drop k = t.kids[k] :: t.kids.drop (k + 1) := List.drop_eq_getElem_cons hkl
          have HM := Hd.mk hmem
          have hbnd : acc.length + 1 ≤ t.kids.length := by omega
          have HROW := Hd.mk (fun W (hb : Below wr.heap.size wr W) => (RR.parts.below hb).row)
          have HBD := Hd.mk hbnd
          obtain ⟨u, hu⟩ : ∃ u, t.kids[k].inv = u := ⟨_, rfl⟩
          rw [hu] at hik
          have HIk := Hd.mk hik
          have HU := Hd.mk hu
          have hal2 : acc.length ≤ 2513169434915 := by omega
          clear RR h4 hal hmem hbnd hu hik hx hi3
          go_wp2_with fail
          go_region_law
            (first
              | (refine step_append_lies _ (by rfl) _ _ _ (by rfl) 0 24 i0 _ 4 56 Tryd.underlying22 hi hz0 hz1 hz2 rfl (by omega) (.slice A3 acc.length c3) acc.length (valsAll acc hs2) (by rfl) hrow ⟨w1.heap.size, 0, none⟩ 1 1 [.int .u8 u.kind, .int .i64 u.num, .string u.name, .slice A4 u.kids.length c4] (by rfl) (by rfl) (World.news_of_block (heap_alloc_new w1 _)) (by simp [Value.oneCell']) (by omega) (by simp [maxLen]; omega) (by omega) (by omega) (w1.heap.size + 1) (by simp) ?_; intro g cap w2 hrow2 hgr hat hlt2; have hpb := HRR.out.after HBW.out hgr; obtain ⟨s0, s1, s2, s3⟩ := four_cells hpb; have t3 := blk_free hpb 3; have HPB := Hd.mk hpb; clear hpb)
              | (go_simp; go_at_call 38; refine (HIk.out A1 c1 wr.drew N0 hNr (H4.out.below (Below.refl _ _).drew)).mono ?_; rintro e w1 ⟨A4, c4, rfl, hb, hi4⟩; have hbw : Below wr.heap.size wr w1 := ext_trans (Below.refl _ _).drew hb; have s3 := (hbw.cell (p := ⟨P, 3, none⟩) hPr).trans p3; have hPw1 : P < w1.heap.size := Nat.lt_of_lt_of_le hPr hbw.size; have hrow := HROW.out _ (ext_alloc hbw (.cells #[.int .u8 u.kind, .int .i64 u.num, .string u.name, .slice A4 u.kids.length c4] 24)); have HBW := Hd.mk hbw; have HI4 := Hd.mk hi4; clear hbw hi4))
          all_goals
            go_wp2_with fail
            go_roundw
            case rel =>
              refine ⟨k, (k : Int) - 1, some ⟨g, 0, none⟩, cap, acc ++ [u], _, rfl, rfl, by omega, ⟨?_⟩, HRR.out.push hN HBW.out HI4.out hrow2 hgr hat⟩
              rw [HA.out, HM.out, List.map_cons, List.reverse_cons, HU.out]
            case measure => simp [intOf] <;> omega
theorem refInv_any (t : Node) : (t.isStmt = true ∨ t.isBlock = true) → RefInvRuns t := by
  induction t using Node.ind with
  | h t ih => exact fun ht => refInv_step t ht (fun k hk h => ih k hk h)
end Go.Proofs.YtgjanglonccclaaDoor
