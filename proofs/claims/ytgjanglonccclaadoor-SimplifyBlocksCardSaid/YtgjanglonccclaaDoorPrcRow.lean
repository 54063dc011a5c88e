/- Rows of procedures that grow; a program while it is made. -/
import Derived.Test.YtgjanglonccclaaDoorRowN
import Derived.Test.YtgjanglonccclaaDoorPrgV
namespace Go.Proofs.YtgjanglonccclaaDoor
open Go.RowKit
set_option linter.unusedVariables false
set_option linter.unusedSimpArgs false

theorem infoDecl : (Tryd.prog.info? 58).map (fun i => (i.zero, i.size, i.bytes)) = some (some (.agg #[(.string ⟨#[]⟩), (.int .u8 0), (.int .i64 0)]), 3, 32) := by kernel_rfl
theorem infoProc : (Tryd.prog.info? 55).map (fun i => (i.zero, i.size, i.bytes)) = some (some (.agg #[(.string ⟨#[]⟩), (.slice none 0 0), (.int .u8 0), (.int .i64 0), (.string ⟨#[]⟩), (.slice none 0 0)]), 6, 96) := by kernel_rfl

structure PP (w : World) (X : Nat → Prop) (l : List Prc) (v : Value) (hs : List PH) : Prop where
  len : l.length = hs.length
  row : w.ownsRow 0 55 6 v l.length (prcVals l hs)
  parts : ∀ j (h1 : j < l.length) (h2 : j < hs.length), PrcIn w (fun b => some b ≠ v.ownBlock ∧ ¬ X b) l[j] hs[j]
  mine : ∀ g, v.ownBlock = some g → ¬ X g
theorem PP.nil {w : World} {X : Nat → Prop} : PP w X [] (.slice none 0 0) [] :=
  ⟨rfl, ⟨by simp [prcVals], .inl ⟨rfl, rfl⟩⟩, fun j h1 => by simp at h1, fun g hg => by simp [Value.ownBlock] at hg⟩
theorem PP.move {w w' : World} {X : Nat → Prop} {l : List Prc} {v : Value} {hs : List PH} (p : PP w X l v hs) (hb : ∀ b, b < w.heap.size → ¬ X b → w'.heap[b]? = w.heap[b]?) : PP w' X l v hs :=
  ⟨p.len, row_of_block p.row (fun g hg => hb g (row_lt p.row hg) (p.mine g hg)), fun j h1 h2 => (p.parts j h1 h2).move (fun b hok hl => hb b hl hok.2) (fun b hok _ => hok), p.mine⟩
theorem PP.below {w w' : World} {X : Nat → Prop} {l : List Prc} {v : Value} {hs : List PH} (p : PP w X l v hs) (hb : Below w.heap.size w w') : PP w' X l v hs := p.move (fun b hl _ => hb.block b hl)
theorem PP.snoc {w w2 : World} {X : Nat → Prop} {l : List Prc} {v v2 : Value} {hs : List PH} (p : PP w X l v hs) {f : Prc} {g : PH} (hu : PrcIn w (fun b => some b ≠ v.ownBlock ∧ ¬ X b) f g)
    (hgr : w.grownBy w2 v.ownBlock) (hrow : w2.ownsRow 0 55 6 v2 (l.length + 1) (prcVals l hs ++ f.vals g))
    (hat : v2.ownBlock = v.ownBlock ∨ v2.ownBlock = some w.heap.size) (hX : ¬ X w.heap.size) : PP w2 X (l ++ [f]) v2 (hs ++ [g]) := by
  have mv : ∀ {f : Prc} {g : PH}, PrcIn w (fun b => some b ≠ v.ownBlock ∧ ¬ X b) f g → PrcIn w2 (fun b => some b ≠ v2.ownBlock ∧ ¬ X b) f g := fun h =>
    h.move (fun b hok hl => grown_block hgr hl hok.1) (fun b hok hl => ⟨by
      rcases hat with e | e
      · rw [e]; exact hok.1
      · rw [e]; intro h2; injection h2 with h2; omega, hok.2⟩)
  refine ⟨by simp [p.len], ?_, fun j h1 h2 => ?_, fun x hx => ?_⟩
  · rw [prcVals_append p.len, List.length_append]
    simpa [prcVals] using hrow
  · rcases Nat.lt_or_ge j l.length with hj | hj
    · have hj2 : j < hs.length := by rw [← p.len]; exact hj
      have := mv (p.parts j hj hj2)
      rw [List.getElem_append_left hj, List.getElem_append_left hj2]
      exact this
    · have hje : j = l.length := by simp at h1; omega
      subst hje
      have e1 : (l ++ [f])[l.length] = f := by simp
      have e2 : (hs ++ [g])[l.length] = g := by
        rw [List.getElem_append_right (by rw [p.len]; exact Nat.le_refl _)]; simp [p.len]
      rw [e1, e2]
      exact mv hu
  · rcases hat with e | e
    · exact p.mine x (by rw [← e]; exact hx)
    · rw [e] at hx; injection hx with hx; rw [← hx]; exact hX
theorem PP.reads {w : World} {X : Nat → Prop} {l : List Prc} {A : Option Addr} {c : Nat} {hs : List PH} (p : PP w X l (.slice A l.length c) hs) (hl : l.length * 96 ≤ 140737488355328) : PrcsIn w (fun b => ¬ X b) l A c hs := by
  refine ⟨row_cap p.row, hl, p.len, ?_, fun j h1 h2 => (p.parts j h1 h2).move (fun _ _ _ => rfl) (fun b hb _ => hb.2)⟩
  have row := p.row
  by_cases h0 : l.length = 0
  · have : l = [] := List.length_eq_zero_iff.1 h0
    subst this
    exact .inl rfl
  · obtain ⟨g, cap, e, _, _⟩ := row.form (by omega)
    injection e with eA _ _
    have hmine := p.mine g (by rw [eA]; rfl)
    subst eA
    refine .inr ⟨g, 0, rfl, hmine, fun i u hu => ?_⟩
    have hi := (List.getElem?_eq_some_iff.1 hu).1
    rw [prcVals_length p.len] at hi
    rw [Nat.zero_add, row.cellAt i (by omega)]; exact hu

/-- Blocks that are still written to. -/
def PX (H P b : Nat) : Prop := b = P ∨ b = H + 1
theorem PX_off {H P b : Nat} (h1 : b ≠ P) (h2 : b ≠ H + 1) : ¬ PX H P b := by unfold PX; omega
/-- A program while it is made: the parameter's block, the result's, the local's. -/
structure PO (w W : World) (p : Prg) (h : GH) (P : Nat) (vA : Option Addr) (vc : Nat) (pm : Node) (mA : Option Addr) (mc : Nat) (l : List Prc) (pB : Option Addr) (pd : Nat) (hs : List PH) : Prop where
  below : Below w.heap.size w W
  size : w.heap.size + 2 ≤ W.heap.size
  box : W.heap[w.heap.size]? = some (.cells #[.slice h.A p.vars.length h.c, .slice h.B p.procs.length h.d, .int .u8 p.main.kind, .int .i64 p.main.num, .string p.main.name, .slice h.C p.main.kids.length h.e] 38)
  res : W.heap[w.heap.size + 1]? = some (.cells #[.slice none 0 0, .slice none 0 0, .int .u8 0, .int .i64 0, .string ⟨#[]⟩, .slice none 0 0] 38)
  lo : w.heap.size + 2 ≤ P
  out : W.heap[P]? = some (.cells #[.slice vA p.vars.length vc, .slice pB l.length pd, .int .u8 pm.kind, .int .i64 pm.num, .string pm.name, .slice mA pm.kids.length mc] 38)
  vars : DeclsIn W (fun b => some b ≠ (Value.slice pB l.length pd).ownBlock ∧ ¬ PX w.heap.size P b) p.vars vA vc
  main : pm.In W (fun b => some b ≠ (Value.slice pB l.length pd).ownBlock ∧ ¬ PX w.heap.size P b) mA mc
  procs : PP W (PX w.heap.size P) l (.slice pB l.length pd) hs
  lo2 : ∀ g, (Value.slice pB l.length pd).ownBlock = some g → w.heap.size + 2 ≤ g
theorem PO.next {w W W2 : World} {p : Prg} {h : GH} {P : Nat} {vA : Option Addr} {vc : Nat} {pm : Node} {mA : Option Addr} {mc : Nat} {l : List Prc} {pB : Option Addr} {pd : Nat} {hs : List PH} (R : PO w W p h P vA vc pm mA mc l pB pd hs) (hb : Below W.heap.size W W2) : PO w W2 p h P vA vc pm mA mc l pB pd hs :=
  ⟨ext_trans R.below hb, Nat.le_trans R.size hb.size, stands R.box hb, stands R.res hb, R.lo, stands R.out hb, R.vars.below hb, R.main.below hb, R.procs.below hb, R.lo2⟩
theorem PO.push {w wr w1 w2 : World} {p : Prg} {h : GH} {P : Nat} {vA : Option Addr} {vc : Nat} {pm : Node} {mA : Option Addr} {mc : Nat} {l : List Prc} {pB : Option Addr} {pd : Nat} {hs : List PH} (R : PO w wr p h P vA vc pm mA mc l pB pd hs) (hbw : Below wr.heap.size wr w1)
    {f : Prc} {g : PH} (hu : PrcIn w1 (fun b => b < w.heap.size ∨ wr.heap.size ≤ b) f g) {k cap : Nat}
    (hrow : w2.ownsRow 0 55 6 (.slice (some ⟨k, 0, none⟩) (l.length + 1) cap) (l.length + 1) (prcVals l hs ++ f.vals g))
    (hgr : w1.grownBy w2 (Value.slice pB l.length pd).ownBlock)
    (hat : (Value.slice pB l.length pd).ownBlock = some k ∨ k = w1.heap.size) :
    PO w (w2.setCell ⟨P, 1, none⟩ (.slice (some ⟨k, 0, none⟩) (l.length + 1) cap)) p h P vA vc pm mA mc (l ++ [f]) (some ⟨k, 0, none⟩) cap (hs ++ [g]) := by
  have hP := R.lo
  have hPw := stands_lt R.out
  have R1 := R.next hbw
  have hsz := hbw.size
  have hgs := hgr.size
  have hz := R.size
  have hPn : some P ≠ (Value.slice pB l.length pd).ownBlock := fun e => R.procs.mine P e.symm (.inl rfl)
  have hgl : ∀ x, (Value.slice pB l.length pd).ownBlock = some x → x < wr.heap.size := fun x hx => row_lt R.procs.row hx
  have hg2 : ∀ x, x < w.heap.size + 2 → some x ≠ (Value.slice pB l.length pd).ownBlock := fun x hx e => by
    have := R.lo2 x e.symm
    omega
  have keep : ∀ x, x < w1.heap.size → some x ≠ (Value.slice pB l.length pd).ownBlock → w2.heap[x]? = w1.heap[x]? := fun x hx hne => hgr.block _ hx hne
  have el : (l ++ [f]).length = l.length + 1 := by simp
  have hat2 : (Value.slice (some ⟨k, 0, none⟩) (l.length + 1) cap).ownBlock = (Value.slice pB l.length pd).ownBlock ∨ (Value.slice (some ⟨k, 0, none⟩) (l.length + 1) cap).ownBlock = some w1.heap.size := by
    rcases hat with h | h
    · exact .inl h.symm
    · exact .inr (by rw [h]; rfl)
  have q := R1.procs.snoc (hu.move (fun _ _ _ => rfl) (fun b hb hlt => ⟨fun e => by
      have h1 := hgl b e.symm
      have h2 := R.lo2 b e.symm
      have h3 : b < w.heap.size ∨ wr.heap.size ≤ b := hb
      omega, by
      have h3 : b < w.heap.size ∨ wr.heap.size ≤ b := hb
      exact PX_off (by omega) (by omega)⟩)) hgr hrow hat2 (PX_off (by omega) (by omega))
  have mvb : ∀ b, (some b ≠ (Value.slice pB l.length pd).ownBlock ∧ ¬ PX w.heap.size P b) → b < w1.heap.size → (w2.setCell ⟨P, 1, none⟩ (.slice (some ⟨k, 0, none⟩) (l.length + 1) cap)).heap[b]? = w1.heap[b]? := fun b hb hlt => by
    rw [set_other (fun e => hb.2 (.inl e)), keep b hlt hb.1]
  have mvo : ∀ b, (some b ≠ (Value.slice pB l.length pd).ownBlock ∧ ¬ PX w.heap.size P b) → b < w1.heap.size → some b ≠ (Value.slice (some ⟨k, 0, none⟩) (l ++ [f]).length cap).ownBlock ∧ ¬ PX w.heap.size P b := fun b hb hlt => ⟨by
    rw [el]
    rcases hat2 with e | e
    · rw [e]; exact hb.1
    · rw [e]; intro h2; injection h2 with h2; omega, hb.2⟩
  refine ⟨?_, ?_, ?_, ?_, hP, ?_, R1.vars.move mvb mvo, Node.In.move mvb mvo _ R1.main, ?_, fun x hx => ?_⟩
  · refine Below.setCell (p := ⟨P, 1, none⟩) (R1.below.grown hgr (by omega) (fun x hx => ?_)) (by show w.heap.size ≤ P; omega) _
    have := R.lo2 x hx
    omega
  · simp only [World.setCell, Array.size_modify]; omega
  · rw [set_other (by omega), keep _ (by omega) (hg2 _ (by omega))]; exact R1.box
  · rw [set_other (by omega), keep _ (by omega) (hg2 _ (by omega))]; exact R1.res
  · have h := R1.out
    rw [← keep P (by omega) hPn] at h
    rw [set_blk h, el]; simp
  · rw [el]
    exact q.move (fun b _ hX => set_other (fun e => hX (.inl e)))
  · have hx : k = x := Option.some.inj hx
    subst hx
    rcases hat with h | h
    · exact R.lo2 k h
    · omega
theorem six_res {W : World} {R : Nat} {v0 v1 v2 v3 v4 v5 u0 u1 u2 u3 u4 u5 : Value} {T : TypeId} (h : W.heap[R]? = some (.cells #[v0, v1, v2, v3, v4, v5] T)) :
    ((((((W.setCell ⟨R, 0, none⟩ u0).setCell ⟨R, 1, none⟩ u1).setCell ⟨R, 2, none⟩ u2).setCell ⟨R, 3, none⟩ u3).setCell ⟨R, 4, none⟩ u4).setCell ⟨R, 5, none⟩ u5).heap[R]? = some (.cells #[u0, u1, u2, u3, u4, u5] T) := by
  simpa using set_blk (set_blk (set_blk (set_blk (set_blk (set_blk h 0 u0) 1 u1) 2 u2) 3 u3) 4 u4) 5 u5
theorem six_other {W : World} {R b : Nat} {u0 u1 u2 u3 u4 u5 : Value} (hb : b ≠ R) :
    ((((((W.setCell ⟨R, 0, none⟩ u0).setCell ⟨R, 1, none⟩ u1).setCell ⟨R, 2, none⟩ u2).setCell ⟨R, 3, none⟩ u3).setCell ⟨R, 4, none⟩ u4).setCell ⟨R, 5, none⟩ u5).heap[b]? = W.heap[b]? := by
  rw [set_other hb, set_other hb, set_other hb, set_other hb, set_other hb, set_other hb]
theorem six_below {B : Nat} {w W : World} (hb : Below B w W) {R : Nat} (hR : B ≤ R) (u0 u1 u2 u3 u4 u5 : Value) :
    Below B w ((((((W.setCell ⟨R, 0, none⟩ u0).setCell ⟨R, 1, none⟩ u1).setCell ⟨R, 2, none⟩ u2).setCell ⟨R, 3, none⟩ u3).setCell ⟨R, 4, none⟩ u4).setCell ⟨R, 5, none⟩ u5) :=
  Below.setCell (p := ⟨R, 5, none⟩) (Below.setCell (p := ⟨R, 4, none⟩) (Below.setCell (p := ⟨R, 3, none⟩) (Below.setCell (p := ⟨R, 2, none⟩) (Below.setCell (p := ⟨R, 1, none⟩) (Below.setCell (p := ⟨R, 0, none⟩) hb hR _) hR _) hR _) hR _) hR _) hR _
/-- The program that was made, written to the result and handed back. -/
theorem PO.fin {w W : World} {p : Prg} {h : GH} {P : Nat} {vA : Option Addr} {vc : Nat} {pm : Node} {mA : Option Addr} {mc : Nat} {l : List Prc} {pB : Option Addr} {pd : Nat} {hs : List PH} (R : PO w W p h P vA vc pm mA mc l pB pd hs) (hl : l.length * 96 ≤ 140737488355328) (u0 u1 u2 u3 u4 u5 : Value) :
    Below w.heap.size w ((((((W.setCell ⟨w.heap.size + 1, 0, none⟩ u0).setCell ⟨w.heap.size + 1, 1, none⟩ u1).setCell ⟨w.heap.size + 1, 2, none⟩ u2).setCell ⟨w.heap.size + 1, 3, none⟩ u3).setCell ⟨w.heap.size + 1, 4, none⟩ u4).setCell ⟨w.heap.size + 1, 5, none⟩ u5) ∧
    PrgIn ((((((W.setCell ⟨w.heap.size + 1, 0, none⟩ u0).setCell ⟨w.heap.size + 1, 1, none⟩ u1).setCell ⟨w.heap.size + 1, 2, none⟩ u2).setCell ⟨w.heap.size + 1, 3, none⟩ u3).setCell ⟨w.heap.size + 1, 4, none⟩ u4).setCell ⟨w.heap.size + 1, 5, none⟩ u5) (fun _ => True) ⟨p.vars, l, pm⟩ ⟨vA, vc, pB, pd, mA, mc⟩ := by
  have mv : ∀ b, ¬ PX w.heap.size P b → b < W.heap.size → ((((((W.setCell ⟨w.heap.size + 1, 0, none⟩ u0).setCell ⟨w.heap.size + 1, 1, none⟩ u1).setCell ⟨w.heap.size + 1, 2, none⟩ u2).setCell ⟨w.heap.size + 1, 3, none⟩ u3).setCell ⟨w.heap.size + 1, 4, none⟩ u4).setCell ⟨w.heap.size + 1, 5, none⟩ u5).heap[b]? = W.heap[b]? := fun b hb _ => six_other (fun e => hb (.inr e))
  refine ⟨six_below R.below (by omega) _ _ _ _ _ _, ⟨?_, ⟨hs, ?_⟩, ?_⟩⟩
  · exact R.vars.move (fun b hb hl => mv b hb.2 hl) (fun _ _ _ => trivial)
  · exact (R.procs.reads hl).move mv (fun _ _ _ => trivial)
  · exact Node.In.move (fun b hb hl => mv b hb.2 hl) (fun _ _ _ => trivial) _ R.main
end Go.Proofs.YtgjanglonccclaaDoor
