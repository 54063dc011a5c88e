/- How programs lie in memory. -/
import Derived.Test.YtgjanglonccclaaDoorPrgP
import Derived.Test.YtgjanglonccclaaDoorBC
namespace Go.Proofs.YtgjanglonccclaaDoor
open Go.RowKit
set_option linter.unusedVariables false
set_option linter.unusedSimpArgs false

/-- Cells that can be read behind a slice's address, in a block that satisfies ok. -/
def Cells (w : World) (ok : Nat → Prop) (A : Option Addr) (cs : List Value) : Prop := cs = [] ∨ ∃ b o, A = some ⟨b, o, none⟩ ∧ ok b ∧ ∀ i u, cs[i]? = some u → w.cell? ⟨b, o + i, none⟩ = some u
theorem Cells.move {w w' : World} {ok ok' : Nat → Prop} {A : Option Addr} {cs : List Value} (h : Cells w ok A cs) (hb : ∀ b, ok b → b < w.heap.size → w'.heap[b]? = w.heap[b]?) (ho : ∀ b, ok b → b < w.heap.size → ok' b) : Cells w' ok' A cs := by
  rcases h with h | ⟨b, o, hA, hok, hc⟩
  · exact .inl h
  · rcases cs with _ | ⟨c, cs⟩
    · exact .inl rfl
    · have h0 := hc 0 c rfl
      have hlt := World.block_lt_of_cell? _ _ h0
      exact .inr ⟨b, o, hA, ho b hok hlt, fun i u hu => by rw [World.cell?_of_block (w := w) (hb b hok hlt)]; exact hc i u hu⟩
theorem Cells.below {w w' : World} {ok : Nat → Prop} {A : Option Addr} {cs : List Value} (h : Cells w ok A cs) (hb : Below w.heap.size w w') : Cells w' ok A cs := h.move (fun b _ hl => hb.block b hl) (fun _ h _ => h)

structure Decl.Fits (d : Decl) : Prop where
  name : d.name.size ≤ 140737488355328
  kind0 : 0 ≤ d.kind
  kind1 : d.kind ≤ 255
  len0 : -9223372036854775808 ≤ d.len
  len1 : d.len ≤ 9223372036854775807
def Decl.vals (d : Decl) : List Value := [.string d.name, .int .u8 d.kind, .int .i64 d.len]
def declVals : List Decl → List Value
  | [] => []
  | d :: ds => d.vals ++ declVals ds
theorem declVals_length : ∀ l : List Decl, (declVals l).length = l.length * 3
  | [] => rfl
  | d :: ds => by rw [declVals, List.length_append, declVals_length ds]; simp [Decl.vals]; omega
theorem declVals_at : ∀ {l : List Decl} (j i : Nat) (hj : j < l.length) (hi : i < 3), (declVals l)[j * 3 + i]? = (l[j].vals)[i]?
  | [], _, _, hj, _ => by simp at hj
  | d :: ds, 0, i, _, hi => by
    rw [declVals, List.getElem?_append_left (by simp [Decl.vals]; omega)]; simp
  | d :: ds, j + 1, i, hj, hi => by
    rw [declVals, List.getElem?_append_right (by simp [Decl.vals]; omega)]
    rw [show (j + 1) * 3 + i - d.vals.length = j * 3 + i by simp [Decl.vals]; omega, declVals_at j i (by simpa using hj) hi]
    simp
theorem declVals_one : ∀ (l : List Decl), ∀ u ∈ declVals l, u.oneCell' = true
  | [], u, h => by simp [declVals] at h
  | d :: ds, u, h => by
    simp only [declVals, List.mem_append] at h
    rcases h with h | h
    · simp only [Decl.vals, List.mem_cons, List.not_mem_nil, or_false] at h
      rcases h with rfl | rfl | rfl <;> rfl
    · exact declVals_one ds u h
/-- Declarations in memory. -/
structure DeclsIn (w : World) (ok : Nat → Prop) (l : List Decl) (A : Option Addr) (c : Nat) : Prop where
  fits : ∀ d ∈ l, d.Fits
  len : l.length ≤ c
  cap : l.length * 32 ≤ 140737488355328
  row : Cells w ok A (declVals l)
theorem DeclsIn.move {w w' : World} {ok ok' : Nat → Prop} {l : List Decl} {A : Option Addr} {c : Nat} (h : DeclsIn w ok l A c) (hb : ∀ b, ok b → b < w.heap.size → w'.heap[b]? = w.heap[b]?) (ho : ∀ b, ok b → b < w.heap.size → ok' b) : DeclsIn w' ok' l A c :=
  ⟨h.fits, h.len, h.cap, h.row.move hb ho⟩
theorem DeclsIn.below {w w' : World} {ok : Nat → Prop} {l : List Decl} {A : Option Addr} {c : Nat} (h : DeclsIn w ok l A c) (hb : Below w.heap.size w w') : DeclsIn w' ok l A c := ⟨h.fits, h.len, h.cap, h.row.below hb⟩
theorem DeclsIn.at_ {w : World} {ok : Nat → Prop} {l : List Decl} {A : Option Addr} {c : Nat} (h : DeclsIn w ok l A c) (j : Nat) (hj : j < l.length) :
    ∃ b o, A = some ⟨b, o, none⟩ ∧ w.cell? ⟨b, o + j * 3, none⟩ = some (.string l[j].name) ∧ w.cell? ⟨b, o + j * 3 + 1, none⟩ = some (.int .u8 l[j].kind) ∧ w.cell? ⟨b, o + j * 3 + 2, none⟩ = some (.int .i64 l[j].len) ∧ b < w.heap.size := by
  rcases h.row with h0 | ⟨b, o, hA, _, hc⟩
  · have := declVals_length l
    rw [h0] at this; simp at this; omega
  · have g : ∀ i (hi : i < 3), w.cell? ⟨b, o + (j * 3 + i), none⟩ = (l[j].vals)[i]? := fun i hi => by
      have e := declVals_at j i hj hi
      have e2 : (l[j].vals)[i]? = some ((l[j].vals)[i]'(by simp [Decl.vals]; omega)) := List.getElem?_eq_getElem _
      rw [e2] at e ⊢
      exact hc _ _ e
    have g0 := g 0 (by omega)
    exact ⟨b, o, hA, g0, g 1 (by omega), g 2 (by omega), World.block_lt_of_cell? _ _ g0⟩
theorem DeclsIn.lenZ {w : World} {ok : Nat → Prop} {l : List Decl} {A : Option Addr} {c : Nat} (h : DeclsIn w ok l A c) : (l.length : Int) ≤ 4398046511104 := by have := h.cap; omega

/-- Where the parts of a procedure lie. -/
structure PH where
  A : Option Addr
  c : Nat
  B : Option Addr
  d : Nat
def Prc.vals (f : Prc) (h : PH) : List Value := [.string f.name, .slice h.A f.params.length h.c, .int .u8 f.body.kind, .int .i64 f.body.num, .string f.body.name, .slice h.B f.body.kids.length h.d]
def prcVals : List Prc → List PH → List Value
  | f :: fs, h :: hs => f.vals h ++ prcVals fs hs
  | _, _ => []
theorem prcVals_length : ∀ {l : List Prc} {hs : List PH}, l.length = hs.length → (prcVals l hs).length = l.length * 6
  | [], [], _ => rfl
  | f :: fs, h :: hs, e => by rw [prcVals, List.length_append, prcVals_length (by simpa using e)]; simp [Prc.vals]; omega
theorem prcVals_at : ∀ {l : List Prc} {hs : List PH} (j i : Nat) (hj : j < l.length) (hj2 : j < hs.length) (hi : i < 6), (prcVals l hs)[j * 6 + i]? = (l[j].vals hs[j])[i]?
  | [], _, _, _, hj, _, _ => by simp at hj
  | _ :: _, [], _, _, _, hj, _ => by simp at hj
  | f :: fs, h :: hs, 0, i, _, _, hi => by
    rw [prcVals, List.getElem?_append_left (by simp [Prc.vals]; omega)]; simp
  | f :: fs, h :: hs, j + 1, i, hj, hj2, hi => by
    rw [prcVals, List.getElem?_append_right (by simp [Prc.vals]; omega)]
    rw [show (j + 1) * 6 + i - (f.vals h).length = j * 6 + i by simp [Prc.vals]; omega, prcVals_at j i (by simpa using hj) (by simpa using hj2) hi]
    simp
theorem prcVals_append : ∀ {l m : List Prc} {hs gs : List PH}, l.length = hs.length → prcVals (l ++ m) (hs ++ gs) = prcVals l hs ++ prcVals m gs
  | [], _, [], _, _ => by simp [prcVals]
  | f :: fs, m, h :: hs, gs, e => by simp only [List.cons_append, prcVals]; rw [prcVals_append (by simpa using e), List.append_assoc]
theorem prcVals_one : ∀ (l : List Prc) (hs : List PH), ∀ u ∈ prcVals l hs, u.oneCell' = true
  | [], _, u, h => by simp [prcVals] at h
  | _ :: _, [], u, h => by simp [prcVals] at h
  | f :: fs, g :: gs, u, h => by
    simp only [prcVals, List.mem_append] at h
    rcases h with h | h
    · simp only [Prc.vals, List.mem_cons, List.not_mem_nil, or_false] at h
      rcases h with rfl | rfl | rfl | rfl | rfl | rfl <;> rfl
    · exact prcVals_one fs gs u h
/-- One procedure's parts. -/
structure PrcIn (w : World) (ok : Nat → Prop) (f : Prc) (h : PH) : Prop where
  name : f.name.size ≤ 140737488355328
  params : DeclsIn w ok f.params h.A h.c
  body : f.body.In w ok h.B h.d
theorem PrcIn.move {w w' : World} {ok ok' : Nat → Prop} {f : Prc} {h : PH} (p : PrcIn w ok f h) (hb : ∀ b, ok b → b < w.heap.size → w'.heap[b]? = w.heap[b]?) (ho : ∀ b, ok b → b < w.heap.size → ok' b) : PrcIn w' ok' f h :=
  ⟨p.name, p.params.move hb ho, Node.In.move hb ho _ p.body⟩
theorem PrcIn.below {w w' : World} {ok : Nat → Prop} {f : Prc} {h : PH} (p : PrcIn w ok f h) (hb : Below w.heap.size w w') : PrcIn w' ok f h := p.move (fun b _ hl => hb.block b hl) (fun _ h _ => h)
/-- Procedures in memory. -/
structure PrcsIn (w : World) (ok : Nat → Prop) (l : List Prc) (A : Option Addr) (c : Nat) (hs : List PH) : Prop where
  len : l.length ≤ c
  cap : l.length * 96 ≤ 140737488355328
  hlen : l.length = hs.length
  row : Cells w ok A (prcVals l hs)
  parts : ∀ j (h1 : j < l.length) (h2 : j < hs.length), PrcIn w ok l[j] hs[j]
theorem PrcsIn.move {w w' : World} {ok ok' : Nat → Prop} {l : List Prc} {A : Option Addr} {c : Nat} {hs : List PH} (p : PrcsIn w ok l A c hs) (hb : ∀ b, ok b → b < w.heap.size → w'.heap[b]? = w.heap[b]?) (ho : ∀ b, ok b → b < w.heap.size → ok' b) : PrcsIn w' ok' l A c hs :=
  ⟨p.len, p.cap, p.hlen, p.row.move hb ho, fun j h1 h2 => (p.parts j h1 h2).move hb ho⟩
theorem PrcsIn.below {w w' : World} {ok : Nat → Prop} {l : List Prc} {A : Option Addr} {c : Nat} {hs : List PH} (p : PrcsIn w ok l A c hs) (hb : Below w.heap.size w w') : PrcsIn w' ok l A c hs := p.move (fun b _ hl => hb.block b hl) (fun _ h _ => h)
theorem PrcsIn.lenZ {w : World} {ok : Nat → Prop} {l : List Prc} {A : Option Addr} {c : Nat} {hs : List PH} (h : PrcsIn w ok l A c hs) : (l.length : Int) ≤ 1466015503701 := by have := h.cap; omega
theorem PrcsIn.at_ {w : World} {ok : Nat → Prop} {l : List Prc} {A : Option Addr} {c : Nat} {hs : List PH} (h : PrcsIn w ok l A c hs) (j : Nat) (hj : j < l.length) :
    ∃ b o g, A = some ⟨b, o, none⟩ ∧ (w.cell? ⟨b, o + j * 6, none⟩ = some (.string l[j].name) ∧ w.cell? ⟨b, o + j * 6 + 1, none⟩ = some (.slice g.A l[j].params.length g.c) ∧ w.cell? ⟨b, o + j * 6 + 2, none⟩ = some (.int .u8 l[j].body.kind) ∧
      w.cell? ⟨b, o + j * 6 + 3, none⟩ = some (.int .i64 l[j].body.num) ∧ w.cell? ⟨b, o + j * 6 + 4, none⟩ = some (.string l[j].body.name) ∧ w.cell? ⟨b, o + j * 6 + 5, none⟩ = some (.slice g.B l[j].body.kids.length g.d)) ∧ b < w.heap.size ∧ PrcIn w ok l[j] g := by
  have hj2 : j < hs.length := by rw [← h.hlen]; exact hj
  rcases h.row with h0 | ⟨b, o, hA, _, hc⟩
  · have := prcVals_length h.hlen
    rw [h0] at this; simp at this; omega
  · have g : ∀ i (hi : i < 6), w.cell? ⟨b, o + (j * 6 + i), none⟩ = (l[j].vals hs[j])[i]? := fun i hi => by
      have e := prcVals_at j i hj hj2 hi
      have e2 : (l[j].vals hs[j])[i]? = some ((l[j].vals hs[j])[i]'(by simp [Prc.vals]; omega)) := List.getElem?_eq_getElem _
      rw [e2] at e ⊢
      exact hc _ _ e
    have g0 := g 0 (by omega)
    exact ⟨b, o, hs[j], hA, ⟨g0, g 1 (by omega), g 2 (by omega), g 3 (by omega), g 4 (by omega), g 5 (by omega)⟩, World.block_lt_of_cell? _ _ g0, h.parts j hj hj2⟩
/-- Where a program lies. -/
structure GH where
  A : Option Addr
  c : Nat
  B : Option Addr
  d : Nat
  C : Option Addr
  e : Nat
/-- A program in memory. -/
structure PrgIn (w : World) (ok : Nat → Prop) (p : Prg) (h : GH) : Prop where
  vars : DeclsIn w ok p.vars h.A h.c
  procs : ∃ hs, PrcsIn w ok p.procs h.B h.d hs
  main : p.main.In w ok h.C h.e
theorem PrgIn.move {w w' : World} {ok ok' : Nat → Prop} {p : Prg} {h : GH} (g : PrgIn w ok p h) (hb : ∀ b, ok b → b < w.heap.size → w'.heap[b]? = w.heap[b]?) (ho : ∀ b, ok b → b < w.heap.size → ok' b) : PrgIn w' ok' p h := by
  obtain ⟨v, ⟨hs, q⟩, m⟩ := g
  exact ⟨v.move hb ho, ⟨hs, q.move hb ho⟩, Node.In.move hb ho _ m⟩
theorem PrgIn.below {w w' : World} {ok : Nat → Prop} {p : Prg} {h : GH} (g : PrgIn w ok p h) (hb : Below w.heap.size w w') : PrgIn w' ok p h := g.move (fun b _ hl => hb.block b hl) (fun _ h _ => h)
theorem PrgIn.any {w : World} {ok : Nat → Prop} {p : Prg} {h : GH} (g : PrgIn w ok p h) : PrgIn w (fun _ => True) p h := g.move (fun _ _ _ => rfl) (fun _ _ _ => trivial)
def Prg.cells (p : Prg) (h : GH) : List Value := [.slice h.A p.vars.length h.c, .slice h.B p.procs.length h.d, .int .u8 p.main.kind, .int .i64 p.main.num, .string p.main.name, .slice h.C p.main.kids.length h.e]
theorem six_cells {w : World} {g : Nat} {v0 v1 v2 v3 v4 v5 : Value} {t : TypeId} (h : w.heap[g]? = some (.cells #[v0, v1, v2, v3, v4, v5] t)) :
    w.cell? ⟨g, 0, none⟩ = some v0 ∧ w.cell? ⟨g, 1, none⟩ = some v1 ∧ w.cell? ⟨g, 2, none⟩ = some v2 ∧ w.cell? ⟨g, 3, none⟩ = some v3 ∧ w.cell? ⟨g, 4, none⟩ = some v4 ∧ w.cell? ⟨g, 5, none⟩ = some v5 :=
  ⟨cell_blk h 0, cell_blk h 1, cell_blk h 2, cell_blk h 3, cell_blk h 4, cell_blk h 5⟩
theorem three_cells {w : World} {g : Nat} {v0 v1 v2 : Value} {t : TypeId} (h : w.heap[g]? = some (.cells #[v0, v1, v2] t)) :
    w.cell? ⟨g, 0, none⟩ = some v0 ∧ w.cell? ⟨g, 1, none⟩ = some v1 ∧ w.cell? ⟨g, 2, none⟩ = some v2 := ⟨cell_blk h 0, cell_blk h 1, cell_blk h 2⟩
end Go.Proofs.YtgjanglonccclaaDoor
