/- Rows of nodes on new memory whose parts are readable in old blocks: for regions that append. -/
import Derived.Test.YtgjanglonccclaaDoorRefInv
import Derived.Test.YtgjanglonccclaaDoorBxs
import Derived.Test.YtgjanglonccclaaDoorLawP
namespace Go.Proofs.YtgjanglonccclaaDoor
open Go.RowKit
set_option linter.unusedVariables false
set_option linter.unusedSimpArgs false

/-- The parts of a row that was read. -/
structure Parts (w : World) (N0 : Nat) (ks : List Node) (hs : List Hdr) : Prop where
  len : ks.length = hs.length
  kids : ∀ j (h1 : j < ks.length) (h2 : j < hs.length), (ks[j]).In w (fun b => b < N0) hs[j].A hs[j].c
theorem Parts.below {w w' : World} {N0 : Nat} {ks : List Node} {hs : List Hdr} (p : Parts w N0 ks hs) (hb : Below N0 w w') : Parts w' N0 ks hs :=
  ⟨p.len, fun j h1 h2 => Node.In.move (fun b hok hl => hb.block b hok) (fun b hok _ => hok) _ (p.kids j h1 h2)⟩
theorem Parts.append {w : World} {N0 : Nat} {ks ls : List Node} {hs gs : List Hdr} (p : Parts w N0 ks hs) (q : Parts w N0 ls gs) : Parts w N0 (ks ++ ls) (hs ++ gs) := by
  refine ⟨by simp [p.len, q.len], fun j h1 h2 => ?_⟩
  rcases Nat.lt_or_ge j ks.length with hj | hj
  · have hj2 : j < hs.length := by rw [← p.len]; exact hj
    rw [List.getElem_append_left hj, List.getElem_append_left hj2]
    exact p.kids j hj hj2
  · have hj2 : hs.length ≤ j := by rw [← p.len]; exact hj
    rw [List.getElem_append_right hj, List.getElem_append_right hj2]
    have hl := p.len
    have := q.kids (j - ks.length) (by simp at h1; omega) (by simp at h2; omega)
    simp only [← hl]
    exact this
theorem Parts.take {w : World} {N0 : Nat} {ks : List Node} {hs : List Hdr} (p : Parts w N0 ks hs) (k : Nat) : Parts w N0 (ks.take k) (hs.take k) := by
  refine ⟨by simp [p.len], fun j h1 h2 => ?_⟩
  rw [List.getElem_take, List.getElem_take]
  exact p.kids j (by simp at h1; omega) (by simp at h2; omega)
theorem Parts.drop {w : World} {N0 : Nat} {ks : List Node} {hs : List Hdr} (p : Parts w N0 ks hs) (k : Nat) : Parts w N0 (ks.drop k) (hs.drop k) := by
  refine ⟨by simp [p.len], fun j h1 h2 => ?_⟩
  rw [List.getElem_drop, List.getElem_drop]
  exact p.kids (k + j) (by simp at h1; omega) (by simp at h2; omega)
/-- What was readable is a row's parts. -/
theorem Node.In.parts {w : World} {N0 : Nat} {t : Node} {A : Option Addr} {c : Nat} {ok : Nat → Prop} (h : t.In w ok A c) (hok : ∀ b, ok b → b < w.heap.size → b < N0) :
    ∃ hs : List Hdr, Parts w N0 t.kids hs ∧ (A = none → t.kids.length = 0) ∧ ∀ ad, A = some ad → ∀ j u, (valsAll t.kids hs)[j]? = some u → w.cell? (ad.add j) = some u := by
  obtain ⟨hs, h1, h2, h3, h4⟩ := h.raw
  exact ⟨hs, ⟨h1, fun j g1 g2 => Node.In.move (fun _ _ _ => rfl) hok _ (h4 j g1 g2)⟩, h2, h3⟩
/-- A row of one's own that holds them reads as a node. -/
theorem Parts.reads {w : World} {N0 : Nat} {ks : List Node} {hs : List Hdr} (p : Parts w N0 ks hs) {A : Option Addr} {c : Nat} {base : Nat} (row : w.ownsRow base 24 4 (.slice A ks.length c) ks.length (valsAll ks hs)) (k n : Int) (s : ByteArray)
    (hf : Node.Fits ⟨k, n, s, ks⟩) (hl : ks.length * 56 ≤ 140737488355328) : (⟨k, n, s, ks⟩ : Node).In w (fun _ => True) A c := by
  have row0 : w.ownsRow 0 24 4 (.slice A ks.length c) ks.length (valsAll ks hs) := by
    rcases row with ⟨h1, h2⟩
    refine ⟨h1, ?_⟩
    rcases h2 with h2 | ⟨g, cap, cur, h3, h4, r⟩
    · exact .inl h2
    · exact .inr ⟨g, cap, cur, h3, Nat.zero_le _, r⟩
  rw [Node.In_eq]
  obtain ⟨A0, c0, e0, hc⟩ := row_slice row0
  injection e0 with e0 e1 e2
  refine ⟨hf, by show ks.length ≤ c; omega, hl, ?_⟩
  by_cases hk : ks = []
  · exact .inl hk
  · right
    obtain ⟨g, cap, _, hA, hg, _⟩ := row_at row0 p.len 0 (List.length_pos_iff.2 hk)
    injection hA with hA
    subst hA
    refine ⟨g, 0, rfl, trivial, RowIn.iff.2 fun j hj => ?_⟩
    obtain ⟨g', cap', h2, hA', _, c0, c1, c2, c3⟩ := row_at row0 p.len j hj
    obtain rfl : g' = g := by injection hA' with e; injection e with e; injection e with e; exact e.symm
    rw [Nat.zero_add]
    exact ⟨hs[j].A, hs[j].c, c0, c1, c2, c3, Node.In.move (fun _ _ _ => rfl) (fun x hx _ => trivial) _ (p.kids j hj h2)⟩
/-- An empty row of one's own, wherever it stands. -/
theorem empty_at {w : World} {B base : Nat} (hb : base ≤ B) (h : w.heap[B]? = some (.cells #[] 24)) : w.ownsRow base 24 4 (.slice (some ⟨B, 0, none⟩) 0 0) 0 [] :=
  ⟨rfl, .inr ⟨B, 0, #[], rfl, hb, h, Nat.le_refl _, by simp [maxLen], rfl, rfl⟩⟩
/-- Growth that leaves what is older than N0. -/
theorem below_grown {w w2 : World} {row : Option Nat} {N0 : Nat} {W0 : World} (hb : Below N0 W0 w) (hg : w.grownBy w2 row) (hr : ∀ g, row = some g → N0 ≤ g) (hN : N0 ≤ w.heap.size) : Below N0 W0 w2 :=
  ⟨hg.os.trans hb.os, hg.tape.trans hb.tape, hg.output.trans hb.output, Nat.le_trans hb.size hg.size, fun k hk => (hg.block k (by omega) (fun e => by have := hr k e.symm; omega)).trans (hb.block k hk)⟩
theorem ownsRow_ge {w : World} {base : Nat} {e : TypeId} {size n : Nat} {v : Value} {xs : List Value} (h : w.ownsRow base e size v n xs) : ∀ g, v.ownBlock = some g → base ≤ g := fun g hg => (h.lt g hg).1
theorem blk_top {w : World} {o : Obj} {p : Nat} (h : w.heap.size = p) : (w.alloc o).heap[p]? = some o := by subst h; exact new_block w o
theorem blk_sub {w : World} {o x : Obj} {p : Nat} (h : w.heap[p]? = some x) : (w.alloc o).heap[p]? = some x := by
  rw [(Go.MapKept.heap_alloc w o).2 _ (stands_lt h)]; exact h
theorem blk_drew {w : World} {x : Obj} {p : Nat} (h : w.heap[p]? = some x) : w.drew.heap[p]? = some x := h
theorem have_then {p q : Prop} (h : p) (k : p → q) : q := k h
theorem hd_drew (w : World) : w.drew.heap = w.heap := rfl
theorem hd_alloc (w : World) (o : Obj) : (w.alloc o).heap = w.heap.push o := rfl
theorem lawBlock_n (n : Nat) (A : Option Addr) (c : Nat) (w : World) :
    Calls Tryd.prog 19 #[.slice A n c] w fun e w' => e = .returned (.agg #[.int .u8 57, .int .i64 0, .string ⟨#[]⟩, .slice A n c]) ∧ Below w.heap.size w w' := by
  have := lawBlock_any (List.replicate n ⟨0, 0, ⟨#[]⟩, []⟩) A c w
  simpa using this
/-- append of a whole slice that came in, the length and the row's cells as the caller spells them. -/
theorem step_append_to {w : World} {ops : Array Oper} {o : Oper} {a : Act} {K : Act → World → Prop} {Q : Exit → Act → World → Prop} {E : Prop} (hgd : o.guard = none) (s x : Operand) (t : TypeId)
    (ho : o.op = .call { callee := .builtin .append, args := #[s, x], argTypes := #[t, t] })
    (base : Nat) (e : TypeId) (i : TypeInfo) (z : Value) (size bytes : Nat) (ht : Tryd.prog.underlying t = some (.slice e)) (hi : Tryd.prog.info? e = some i) (hz : i.zero = some z)
    (hsize : i.size = size) (hby : i.bytes = bytes) (hzs : z.cells.size = size) (hsz : 0 < size)
    (v : Value) (n : Nat) (xs : List Value) (A : Option Addr) (m c : Nat) (news : List Value) (r : Nat) (ys : List Value) (hr : n + m = r) (hy : xs ++ news = ys)
    (hs : a.eval s = v) (hown : w.ownsRow base e size v n xs)
    (hx : a.eval x = .slice A m c) (hl : news.length = m * size) (hnone : A = none → m = 0) (hnews : ∀ ad, A = some ad → ∀ j u, news[j]? = some u → w.cell? (ad.add j) = some u) (h1 : ∀ u ∈ news, u.oneCell' = true)
    (h63 : r ≤ maxLen) (hbytes : r * bytes ≤ 140737488355328) (hbase : base ≤ w.heap.size)
    (h : ∀ A' c' w', w'.ownsRow base e size (.slice A' r c') r ys → w.grownBy w' v.ownBlock → ((Value.slice A' r c').ownBlock = v.ownBlock ∨ (Value.slice A' r c').ownBlock = some w.heap.size) → K (a.put o.dst (.slice A' r c')) w') :
    if Region.wanted o (yielded ops a.tmps) = true then Oper.wp Tryd.prog o a w K Q else E := by
  subst hr; subst hy
  exact step_append_src hgd s x t ho base e i z size bytes ht hi hz hsize hby hzs hsz v n xs hs hown A m c news hx hl hnone hnews h1 h63 hbytes hbase h
/-- A block that is another than those an append may have taken. -/
theorem own_ne {A : Option Addr} {n c B P N : Nat} (hat : (Value.slice A n c).ownBlock = (Value.slice (some ⟨B, 0, none⟩) 0 0).ownBlock ∨ (Value.slice A n c).ownBlock = some N) (h1 : P ≠ B) (h2 : P < N) : some P ≠ (Value.slice A n c).ownBlock := by
  rcases hat with e | e <;> rw [e]
  · intro h; exact h1 (Option.some.inj h)
  · intro h; have := Option.some.inj h; omega
theorem own_ne2 {A : Option Addr} {n c P N : Nat} {v : Value} (hat : (Value.slice A n c).ownBlock = v.ownBlock ∨ (Value.slice A n c).ownBlock = some N) (h1 : some P ≠ v.ownBlock) (h2 : P < N) : some P ≠ (Value.slice A n c).ownBlock := by
  rcases hat with e | e <;> rw [e]
  · exact h1
  · intro h; have := Option.some.inj h; omega
theorem own_lt {w : World} {base : Nat} {e : TypeId} {size n : Nat} {v : Value} {xs : List Value} (h : w.ownsRow base e size v n xs) : some w.heap.size ≠ v.ownBlock := fun e => by have := row_lt h e.symm; omega
theorem own_ge {w : World} {base : Nat} {e : TypeId} {size n : Nat} {v : Value} {xs : List Value} {P : Nat} (h : w.ownsRow base e size v n xs) (hP : w.heap.size ≤ P) : some P ≠ v.ownBlock := fun e => by have := row_lt h e.symm; omega
/-- A slice header whose cells are known. -/
structure Src (w : World) (X : Option Addr) (ls : List Node) (gs : List Hdr) : Prop where
  none : X = none → ls.length = 0
  at_ : ∀ ad, X = some ad → ∀ j u, (valsAll ls gs)[j]? = some u → w.cell? (ad.add j) = some u
theorem Src.below {W0 w : World} {X : Option Addr} {ls : List Node} {gs : List Hdr} (s : Src W0 X ls gs) (hb : Below W0.heap.size W0 w) : Src w X ls gs :=
  ⟨s.none, fun ad had j u hu => by
    have := s.at_ ad had j u hu
    rw [hb.cell (World.block_lt_of_cell? _ _ this)]; exact this⟩
theorem Src.of_block {w : World} {D : Nat} {cs : Array Value} {ty : TypeId} {ls : List Node} {gs : List Hdr} (h : w.heap[D]? = some (.cells cs ty)) (hcs : cs.toList = valsAll ls gs) : Src w (some ⟨D, 0, Option.none⟩) ls gs :=
  ⟨(fun h => by cases h), fun ad had j u hu => by
    injection had with had
    subst had
    have e : (⟨D, 0, Option.none⟩ : Addr).add j = ⟨D, j, Option.none⟩ := by unfold Addr.add; split <;> simp_all
    rw [e, cell_blk h, ← Array.getElem?_toList, hcs]; exact hu⟩
theorem valsAll_take_at : ∀ (ls : List Node) (gs : List Hdr) (k j : Nat) (u : Value), (valsAll (ls.take k) (gs.take k))[j]? = some u → (valsAll ls gs)[j]? = some u
  | [], _, _, j, u, h => by simp [valsAll] at h
  | _ :: _, [], _, j, u, h => by simp [valsAll] at h
  | t :: ts, g :: gs, 0, j, u, h => by simp [valsAll] at h
  | t :: ts, g :: gs, k + 1, j, u, h => by
    simp only [List.take_succ_cons, valsAll] at h ⊢
    rcases Nat.lt_or_ge j (t.vals g).length with hj | hj
    · rw [List.getElem?_append_left hj] at h ⊢; exact h
    · rw [List.getElem?_append_right hj] at h ⊢; exact valsAll_take_at ts gs k _ u h
theorem valsAll_drop_at : ∀ (ls : List Node) (gs : List Hdr) (k j : Nat) (u : Value), (valsAll (ls.drop k) (gs.drop k))[j]? = some u → (valsAll ls gs)[k * 4 + j]? = some u
  | [], _, _, j, u, h => by simp [valsAll] at h
  | _ :: ts, [], k, j, u, h => by
    rw [List.drop_nil] at h
    cases hd : (List.drop k (_ :: ts)) <;> rw [hd] at h <;> simp [valsAll] at h
  | t :: ts, g :: gs, 0, j, u, h => by simpa using h
  | t :: ts, g :: gs, k + 1, j, u, h => by
    simp only [List.drop_succ_cons, valsAll] at h ⊢
    have hl : (t.vals g).length = 4 := rfl
    rw [List.getElem?_append_right (by omega), hl, show (k + 1) * 4 + j - 4 = k * 4 + j by omega]
    exact valsAll_drop_at ts gs k j u h
theorem add_zero_addr (b o : Nat) : (⟨b, o, Option.none⟩ : Addr).add 0 = ⟨b, o, Option.none⟩ := by unfold Addr.add; split <;> simp_all
theorem add_addr (b o i j : Nat) : ((⟨b, o, Option.none⟩ : Addr).add i).add j = (⟨b, o, Option.none⟩ : Addr).add (i + j) := by
  have e : ∀ o i, (⟨b, o, Option.none⟩ : Addr).add i = ⟨b, o + i, Option.none⟩ := fun o i => by unfold Addr.add; split <;> simp_all
  rw [e, e, e]; simp [Nat.add_assoc]
/-- The address of a slice that was cut. -/
def cutTo (A : Option Addr) (l m : Nat) : Option Addr := if m = l then A else A.map (·.add (l * 4))
theorem Src.take {w : World} {A : Option Addr} {c : Nat} {t : Node} {hs : List Hdr} {ok : Nat → Prop} (h : t.In w ok A c) (s : Src w A t.kids hs) (k : Nat) : Src w (cutTo A 0 c) (t.kids.take k) (hs.take k) := by
  refine ⟨fun h0 => ?_, fun ad had j u hu => ?_⟩
  · have : A = Option.none := by
      unfold cutTo at h0; split at h0
      · exact h0
      · simpa using h0
    have := s.none this
    rw [List.length_take]; omega
  · have hu2 := valsAll_take_at _ _ _ _ _ hu
    cases A with
    | none => unfold cutTo at had; split at had <;> simp at had
    | some a0 =>
      have hc := s.at_ a0 rfl j u hu2
      unfold cutTo at had
      split at had
      · injection had with had; subst had; exact hc
      · simp only [Option.map_some, Option.some.injEq, Nat.zero_mul] at had
        subst had
        rcases (Node.In_eq.1 h).2.2.2 with h0 | ⟨b, o, hA, _⟩
        · rw [h0] at hu2; simp [valsAll] at hu2
        obtain rfl := Option.some.inj hA
        rw [add_addr, Nat.zero_add]; exact hc
theorem Src.drop {w : World} {A : Option Addr} {c : Nat} {t : Node} {hs : List Hdr} {ok : Nat → Prop} (h : t.In w ok A c) (s : Src w A t.kids hs) (k : Nat) : Src w (cutTo A k c) (t.kids.drop k) (hs.drop k) := by
  refine ⟨fun h0 => ?_, fun ad had j u hu => ?_⟩
  · have : A = Option.none := by
      unfold cutTo at h0; split at h0
      · exact h0
      · simpa using h0
    have := s.none this
    rw [List.length_drop]; omega
  · have hu2 := valsAll_drop_at _ _ _ _ _ hu
    have hl := h.len
    cases A with
    | none => unfold cutTo at had; split at had <;> simp at had
    | some a0 =>
      have hc := s.at_ a0 rfl _ u hu2
      unfold cutTo at had
      split at had
      · have he : t.kids.drop k = [] := List.drop_eq_nil_of_le (by omega)
        rw [he] at hu; simp [valsAll] at hu
      · simp only [Option.map_some, Option.some.injEq] at had
        subst had
        rcases (Node.In_eq.1 h).2.2.2 with h0 | ⟨b, o, hA, _⟩
        · rw [h0] at hu2; simp [valsAll] at hu2
        obtain rfl := Option.some.inj hA
        rw [add_addr]; exact hc
/-- Cutting a slice of nodes, as the machine does it. -/
theorem elemNodes : Tryd.prog.elem 22 = 24 := by kernel_rfl
theorem undNodes : Tryd.prog.underlying 22 = some (.slice (Tryd.prog.elem 22)) := by kernel_rfl
theorem run_cut_to (A : Option Addr) (len c k : Nat) (hk : k ≤ c) (w : World) : (Instr.slice 22 (.slice A len c) Option.none (some (.int .i64 (k : Int))) Option.none).run Tryd.prog w = .ok (.slice (cutTo A 0 c) k c) w := by
  obtain ⟨i0, hi, hz0, hz1, hz2⟩ := info_parts infoNode
  rw [run_slice_h (P := Tryd.prog) w 22 A len c undNodes .i64 (k : Int) (by omega) (by omega), elemNodes]
  simp [sizeOf, typeInfo, hi, hz1, cutTo, sliced]
theorem run_cut_from (A : Option Addr) (len c k : Nat) (hk : k ≤ len) (w : World) : (Instr.slice 22 (.slice A len c) (some (.int .i64 (k : Int))) Option.none Option.none).run Tryd.prog w = .ok (.slice (cutTo A k c) (len - k) (c - k)) w := by
  obtain ⟨i0, hi, hz0, hz1, hz2⟩ := info_parts infoNode
  rw [run_slice_l (P := Tryd.prog) w 22 A len c undNodes .i64 (k : Int) (by omega) (by omega), elemNodes]
  simp [sizeOf, typeInfo, hi, hz1, cutTo, sliced]
theorem some_none {α : Type} {a : α} {p : Prop} (h : some a = Option.none) : p := by cases h
/-- A block that an append leaves alone. -/
theorem grown_keep {w w2 : World} {row : Option Nat} {P : Nat} {o : Obj} {goal : Prop} (hg : w.grownBy w2 row) (h : w.heap[P]? = some o) (hne : some P ≠ row) (k : Hd (w2.heap[P]? = some o) → goal) : goal :=
  k ⟨(hg.block P (stands_lt h) hne).trans h⟩
theorem In_any {w : World} {ok : Nat → Prop} {t : Node} {A : Option Addr} {c : Nat} (h : t.In w ok A c) : t.In w (fun _ => True) A c := Node.In.move (fun _ _ _ => rfl) (fun _ _ _ => trivial) _ h
/-- What region 11 of SimplifyEmpties leaves. -/
def BothIn (W0 : World) (ks : List Node) (v : Value) (wx : World) : Prop :=
  ∃ (P : Nat) (A : Option Addr) (c : Nat), v = .pointer (some ⟨P, 0, none⟩) ∧ Below W0.heap.size W0 wx ∧ wx.heap[P]? = some (.cells #[.int .u8 57, .int .i64 0, .string ⟨#[]⟩, .slice A ks.length c] 24) ∧ (⟨57, 0, ⟨#[]⟩, ks⟩ : Node).In wx (fun _ => True) A c
theorem BothIn.mk {W0 w wx : World} {ks : List Node} {hs : List Hdr} {P n : Nat} {A : Option Addr} {c : Nat} (hb : Below W0.heap.size W0 wx) (hp : wx.heap[P]? = some (.cells #[.int .u8 57, .int .i64 0, .string ⟨#[]⟩, .slice A n c] 24))
    (row : w.ownsRow W0.heap.size 24 4 (.slice A n c) n (valsAll ks hs)) (hn : n = ks.length) (p : Parts W0 W0.heap.size ks hs) (hl : ks.length * 56 ≤ 140737488355328)
    (hk : ∀ g, (Value.slice A n c).ownBlock = some g → wx.heap[g]? = w.heap[g]?) : BothIn W0 ks (.pointer (some ⟨P, 0, none⟩)) wx := by
  subst hn
  exact ⟨P, A, c, rfl, hb, hp, (p.below hb).reads (row_of_block row hk) 57 0 ⟨#[]⟩ ⟨by simp, by simp, by simp, by simp, by simp [ByteArray.size]⟩ hl⟩
end Go.Proofs.YtgjanglonccclaaDoor
