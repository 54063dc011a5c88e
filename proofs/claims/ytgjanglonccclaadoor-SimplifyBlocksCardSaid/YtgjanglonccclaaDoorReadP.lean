/- A program as the row's own reading gives it. -/
import Derived.Test.YtgjanglonccclaaDoorRead
import Derived.Test.YtgjanglonccclaaDoorPrgB
namespace Go.Proofs.YtgjanglonccclaaDoor
open Go.RowKit
set_option linter.unusedVariables false
set_option linter.unusedSimpArgs false

theorem upto_mem {H : Type} {d : DataW H} : ∀ {l : List (DataW H)}, d ∈ l → Rows.uptoBulk d ≤ Rows.uptoBulkAll l
  | [], h => by simp at h
  | x :: l, h => by
    simp only [Rows.uptoBulkAll]
    rcases List.mem_cons.1 h with rfl | h
    · omega
    · have := upto_mem h; omega
theorem flatMap_at {α : Type} {f : α → List Value} {size : Nat} (hf : ∀ a, (f a).length = size) : ∀ {l : List α} (j i : Nat) (hj : j < l.length) (hi : i < size), (l.flatMap f)[j * size + i]? = (f l[j])[i]?
  | [], _, _, hj, _ => by simp at hj
  | a :: l, 0, i, _, hi => by
    rw [List.flatMap_cons, List.getElem?_append_left (by rw [hf]; omega)]; simp
  | a :: l, j + 1, i, hj, hi => by
    rw [List.flatMap_cons, List.getElem?_append_right (by rw [hf, Nat.succ_mul]; omega), hf]
    rw [show (j + 1) * size + i - size = j * size + i by rw [Nat.succ_mul]; omega, flatMap_at hf j i (by simpa using hj) hi]
    simp
theorem flatMap_len {α : Type} {f : α → List Value} {size : Nat} (hf : ∀ a, (f a).length = size) : ∀ l : List α, (l.flatMap f).length = l.length * size
  | [] => by simp
  | a :: l => by rw [List.flatMap_cons, List.length_append, hf, flatMap_len hf l, List.length_cons, Nat.succ_mul]; omega
/-- A slice whose elements can be read. -/
theorem slice_of_trod {H : Type} {enc : TypeId × Value → H} {w : World} {α : Type} [Inhabited α] {sl el : TypeId} (hund : Tryd.prog.underlying sl = some (.slice el)) {size bytes : Nat} (hcells : Tryd.prog.cellsOf el = size) (hbytes : Tryd.prog.bytesOf el = bytes) (hsz : 0 < size)
    (f : α → List Value) (good : α → DataW H → Prop) (hf : ∀ a, (f a).length = size) {fuel : Nat}
    (read : ∀ n' < fuel, ∀ (cs : List Value) (x : DataW H × List MemPlace), DataW.trod enc Tryd.prog w 0 (fun _ => true) true n' el cs = some x → (∀ y ∈ x.1.weights Tryd.prog el, y ≤ reachBytes) → ∃ a, cs = f a ∧ good a x.1)
    {v : Value} {y : DataW H × List MemPlace} (g : DataW.trod enc Tryd.prog w 0 (fun _ => true) true fuel sl [v] = some y) (hz : ∀ z ∈ y.1.weights Tryd.prog sl, z ≤ reachBytes) :
    ∃ (l : List α) (A : Option Addr) (c : Nat), v = .slice A l.length c ∧ l.length ≤ c ∧ l.length * bytes ≤ 140737488355328 ∧ (∀ a ∈ l, ∃ d, good a d ∧ Rows.uptoBulk d ≤ Rows.uptoBulk y.1) ∧ Cells w (fun _ => True) A (l.flatMap f) := by
  rcases DataW.trod_slice hund g with ⟨e3, rfl⟩ | ⟨a, len, cap, elems, rest, n', hn, e3, rfl, hb, hle, hcap, hel, hget, _⟩
  · injection e3 with e3
    subst e3
    exact ⟨[], none, 0, rfl, Nat.le_refl _, by simp, by simp, .inl rfl⟩
  · injection e3 with e3
    subst e3
    have hlenb : len * bytes ≤ 140737488355328 := by
      have := hz ((elems.length + rest.length) * bytes) (by simp [DataW.weights, hund, hbytes])
      simp only [reachBytes] at this
      have h2 : len * bytes ≤ (elems.length + rest.length) * bytes := Nat.mul_le_mul_right _ (by omega)
      omega
    have each : ∀ i, i < len → ∃ q : α, (∀ k, k < size → w.cell? (a.add (i * size + k)) = (f q)[k]?) ∧ ∃ d, good q d ∧ Rows.uptoBulk d ≤ Rows.uptoBulkAll (elems.map (·.1)) := by
      intro i hi
      have hg := hget i hi
      rw [hcells, List.getElem?_eq_getElem (by omega)] at hg
      obtain ⟨cs', hc, ht⟩ := Option.bind_eq_some_iff.1 hg
      obtain ⟨q, rfl, hq⟩ := read n' (by omega) cs' _ ht (fun y hy => hz y (by
        simp only [DataW.weights, hund, List.mem_cons, List.mem_append]
        exact .inr (.inl (mem_weightsAll (List.mem_map.2 ⟨_, List.getElem_mem _, rfl⟩) hy))))
      obtain ⟨_, _, hcell⟩ := World.cells?_some hc
      refine ⟨q, fun k hk => ?_, _, hq, upto_mem (List.mem_map.2 ⟨_, List.getElem_mem _, rfl⟩)⟩
      have := hcell k hk
      rw [Deep.add_add] at this
      exact this
    obtain ⟨q, hq⟩ := Deep.choose_lt each
    have hkl : ((List.range len).map q).length = len := by simp
    refine ⟨(List.range len).map q, some a, cap, by simp, by simpa using hle, by simpa using hlenb, fun x hx => ?_, ?_⟩
    · obtain ⟨i, hi, rfl⟩ := List.mem_map.1 hx
      obtain ⟨d, h1, h2⟩ := (hq i (by simpa using hi)).2
      exact ⟨d, h1, Nat.le_trans h2 (by simp only [Rows.uptoBulk]; omega)⟩
    · by_cases h0 : len = 0
      · left; subst h0; rfl
      · right
        obtain ⟨b, o, spot⟩ := a
        have hspot : spot = none := by
          have h1 := (hq 0 (by omega)).1 0 hsz
          have h2 : 0 < (f (q 0)).length := by rw [hf]; exact hsz
          rw [List.getElem?_eq_getElem h2] at h1
          simpa [Addr.add] using World.cell?_spot h1
        subst hspot
        refine ⟨b, o, rfl, trivial, fun i u hu => ?_⟩
        have hi : i < len * size := by
          have h1 := (List.getElem?_eq_some_iff.1 hu).1
          rw [flatMap_len hf, List.length_map, List.length_range] at h1
          exact h1
        have hd : i / size < len := (Nat.div_lt_iff_lt_mul hsz).2 hi
        have hm := Nat.mod_lt i hsz
        have he : i = i / size * size + i % size := by rw [Nat.mul_comm]; exact (Nat.div_add_mod i size).symm
        have h3 := (hq (i / size) hd).1 (i % size) hm
        rw [addr_plain] at h3
        rw [he, flatMap_at hf (i / size) (i % size) (by simpa using hd) hm] at hu
        rw [he]
        have e4 : ((List.range len).map q)[i / size]'(by simpa using hd) = q (i / size) := by simp
        rw [e4] at hu
        rw [h3]; exact hu
theorem cells58 : Tryd.prog.cellsOf 58 = 3 := by kernel_rfl
theorem bytes58 : Tryd.prog.bytesOf 58 = 32 := by kernel_rfl
theorem cells55 : Tryd.prog.cellsOf 55 = 6 := by kernel_rfl
theorem bytes55 : Tryd.prog.bytesOf 55 = 96 := by kernel_rfl
theorem c1e : Tryd.prog.cellsOf 35 = 1 := by kernel_rfl
theorem c1f : Tryd.prog.cellsOf 36 = 1 := by kernel_rfl
theorem three_of {α : Type} {l : List α} (h : l.length = 3) : ∃ a b c, l = [a, b, c] := by
  match l, h with
  | [a, b, c], _ => exact ⟨a, b, c, rfl⟩
theorem six_of {α : Type} {l : List α} (h : l.length = 6) : ∃ a b c d e f, l = [a, b, c, d, e, f] := by
  match l, h with
  | [a, b, c, d, e, f], _ => exact ⟨a, b, c, d, e, f, rfl⟩

set_option maxRecDepth 100000 in
theorem decl_of_trod {H : Type} (enc : TypeId × Value → H) (w : World) (fuel : Nat) (cs : List Value) (x : DataW H × List MemPlace) (h : DataW.trod enc Tryd.prog w 0 (fun _ => true) true fuel 58 cs = some x)
    (hw : ∀ y ∈ x.1.weights Tryd.prog 58, y ≤ reachBytes) : ∃ d : Decl, cs = d.vals ∧ d.Fits := by
  obtain ⟨xs, n, rfl, rfl, hl, hlen, hf⟩ := DataW.trod_struct Tryd.underlying58 h
  rw [cells58] at hl
  obtain ⟨y0, y1, y2, rfl⟩ := three_of hlen
  obtain ⟨v0, v1, v2, rfl⟩ := three_of hl
  have g0 : DataW.trod enc Tryd.prog w 0 (fun _ => true) true n 9 [v0] = some y0 := by have := hf 0 _ rfl; simpa [c1c] using this
  have g1 : DataW.trod enc Tryd.prog w 0 (fun _ => true) true n 5 [v1] = some y1 := by have := hf 1 _ rfl; simpa [c1a] using this
  have g2 : DataW.trod enc Tryd.prog w 0 (fun _ => true) true n 3 [v2] = some y2 := by have := hf 2 _ rfl; simpa [c1b] using this
  clear hf h
  obtain ⟨s, e2, rfl, ws⟩ := DataW.trod_string Tryd.underlying9 g0
  obtain ⟨k, e0, rfl, wk⟩ := DataW.trod_int Tryd.underlying5 g1
  obtain ⟨m, e1, rfl, wm⟩ := DataW.trod_int Tryd.underlying3 g2
  have hz := hw s.data.toList.length (by
    simp only [List.map_cons, List.map_nil, DataW.weights, Tryd.underlying58, DataW.weightsEach]
    simp)
  injection e0 with e0; injection e1 with e1; injection e2 with e2
  subst e0; subst e1; subst e2
  simp [reachBytes] at hz
  simp [Lit.wf, IntKind.min, IntKind.max, IntKind.signed, IntKind.bits] at wk wm
  exact ⟨⟨s, k, m⟩, rfl, ⟨by show s.size ≤ _; omega, by show 0 ≤ k; omega, by show k ≤ 255; omega, by show _ ≤ m; omega, by show m ≤ _; omega⟩⟩
theorem decls_of_trod {H : Type} {enc : TypeId × Value → H} {w : World} {fuel : Nat} {v : Value} {y : DataW H × List MemPlace} (g : DataW.trod enc Tryd.prog w 0 (fun _ => true) true fuel 35 [v] = some y) (hz : ∀ z ∈ y.1.weights Tryd.prog 35, z ≤ reachBytes) :
    ∃ (l : List Decl) (A : Option Addr) (c : Nat), v = .slice A l.length c ∧ DeclsIn w (fun _ => True) l A c := by
  haveI : Inhabited Decl := ⟨⟨⟨#[]⟩, 0, 0⟩⟩
  obtain ⟨l, A, c, h1, h2, h3, h4, h5⟩ := slice_of_trod Tryd.underlying35 cells58 bytes58 (by omega) Decl.vals (fun d _ => d.Fits) (fun d => rfl) (fun n' _ cs x hx hwx => decl_of_trod enc w n' cs x hx hwx) g hz
  refine ⟨l, A, c, h1, fun d hd => (h4 d hd).elim fun _ h => h.1, h2, h3, ?_⟩
  have : declVals l = l.flatMap Decl.vals := by
    clear h1 h2 h3 h4 h5
    induction l with
    | nil => rfl
    | cons d l ih => rw [declVals, List.flatMap_cons, ih]
  rw [this]; exact h5

set_option maxRecDepth 100000 in
theorem prc_of_trod {H : Type} (enc : TypeId × Value → H) (w : World) (fuel : Nat) (cs : List Value) (x : DataW H × List MemPlace) (h : DataW.trod enc Tryd.prog w 0 (fun _ => true) true fuel 55 cs = some x)
    (hw : ∀ y ∈ x.1.weights Tryd.prog 55, y ≤ reachBytes) : ∃ q : Prc × PH, cs = q.1.vals q.2 ∧ (PrcIn w (fun _ => True) q.1 q.2 ∧ q.1.body.count ≤ Rows.uptoBulk x.1) := by
  obtain ⟨xs, n, rfl, rfl, hl, hlen, hf⟩ := DataW.trod_struct Tryd.underlying55 h
  rw [cells55] at hl
  obtain ⟨y0, y1, y2, rfl⟩ := three_of hlen
  obtain ⟨v0, v1, v2, v3, v4, v5, rfl⟩ := six_of hl
  have g0 : DataW.trod enc Tryd.prog w 0 (fun _ => true) true n 9 [v0] = some y0 := by have := hf 0 _ rfl; simpa [c1c] using this
  have g1 : DataW.trod enc Tryd.prog w 0 (fun _ => true) true n 35 [v1] = some y1 := by have := hf 1 _ rfl; simpa [c1c, c1e] using this
  have g2 : DataW.trod enc Tryd.prog w 0 (fun _ => true) true n 24 [v2, v3, v4, v5] = some y2 := by have := hf 2 _ rfl; simpa [c1c, c1e, cells24] using this
  clear hf h
  obtain ⟨s, e2, rfl, ws⟩ := DataW.trod_string Tryd.underlying9 g0
  injection e2 with e2
  subst e2
  have hz : ∀ z, z ∈ [s.data.toList.length] ++ (y1.1.weights Tryd.prog 35 ++ y2.1.weights Tryd.prog 24) → z ≤ reachBytes := fun z hz => hw z (by
    simp only [List.map_cons, List.map_nil, DataW.weights, Tryd.underlying55, DataW.weightsEach]
    simpa using hz)
  obtain ⟨l, A, c, rfl, hd⟩ := decls_of_trod g1 (fun z h => hz z (by simp [h]))
  obtain ⟨t, B, d, e, hin, hbk⟩ := node_of_trod_bulk enc w n _ _ g2 (fun z h => hz z (by simp [h]))
  have hs := hz s.data.toList.length (by simp)
  simp [reachBytes] at hs
  simp only [List.cons.injEq, and_true] at e
  obtain ⟨rfl, rfl, rfl, rfl⟩ := e
  refine ⟨(⟨s, l, t⟩, ⟨A, c, B, d⟩), rfl, ⟨by show s.size ≤ _; omega, hd, hin⟩, Nat.le_trans hbk ?_⟩
  simp only [List.map_cons, List.map_nil, Rows.uptoBulk, Rows.uptoBulkAll]
  omega
theorem prcs_of_trod {H : Type} {enc : TypeId × Value → H} {w : World} {fuel : Nat} {v : Value} {y : DataW H × List MemPlace} (g : DataW.trod enc Tryd.prog w 0 (fun _ => true) true fuel 36 [v] = some y) (hz : ∀ z ∈ y.1.weights Tryd.prog 36, z ≤ reachBytes) :
    ∃ (l : List Prc) (A : Option Addr) (c : Nat) (hs : List PH), v = .slice A l.length c ∧ PrcsIn w (fun _ => True) l A c hs ∧ ∀ f ∈ l, f.body.count ≤ Rows.uptoBulk y.1 := by
  haveI : Inhabited (Prc × PH) := ⟨(⟨⟨#[]⟩, [], ⟨0, 0, ⟨#[]⟩, []⟩⟩, ⟨none, 0, none, 0⟩)⟩
  obtain ⟨l, A, c, h1, h2, h3, h4, h5⟩ := slice_of_trod Tryd.underlying36 cells55 bytes55 (by omega) (fun q : Prc × PH => q.1.vals q.2) (fun q d => PrcIn w (fun _ => True) q.1 q.2 ∧ q.1.body.count ≤ Rows.uptoBulk d) (fun d => rfl) (fun n' _ cs x hx hwx => prc_of_trod enc w n' cs x hx hwx) g hz
  refine ⟨l.map (·.1), A, c, l.map (·.2), by simpa using h1, ⟨by simpa using h2, by simpa using h3, by simp, ?_, fun j e1 e2 => ?_⟩, fun f hf => ?_⟩
  · have : prcVals (l.map (·.1)) (l.map (·.2)) = l.flatMap (fun q => q.1.vals q.2) := by
      clear h1 h2 h3 h4 h5
      induction l with
      | nil => rfl
      | cons d l ih => rw [List.map_cons, List.map_cons, prcVals, List.flatMap_cons, ih]
    rw [this]; exact h5
  · have hj : j < l.length := by simpa using e1
    obtain ⟨d, hg, _⟩ := h4 l[j] (List.getElem_mem hj)
    simpa using hg.1
  · obtain ⟨q, hq, rfl⟩ := List.mem_map.1 hf
    obtain ⟨d, hg, hb⟩ := h4 q hq
    exact Nat.le_trans hg.2 hb

set_option maxRecDepth 100000 in
theorem prg_of_trod {H : Type} (enc : TypeId × Value → H) (w : World) (fuel : Nat) (cs : List Value) (x : DataW H × List MemPlace) (h : DataW.trod enc Tryd.prog w 0 (fun _ => true) true fuel 38 cs = some x)
    (hw : ∀ y ∈ x.1.weights Tryd.prog 38, y ≤ reachBytes) : ∃ (p : Prg) (g : GH), cs = p.cells g ∧ PrgIn w (fun _ => True) p g ∧ p.main.count ≤ Rows.uptoBulk x.1 ∧ ∀ f ∈ p.procs, f.body.count ≤ Rows.uptoBulk x.1 := by
  have cells38 : Tryd.prog.cellsOf 38 = 6 := by kernel_rfl
  obtain ⟨xs, n, rfl, rfl, hl, hlen, hf⟩ := DataW.trod_struct Tryd.underlying38 h
  rw [cells38] at hl
  obtain ⟨y0, y1, y2, rfl⟩ := three_of hlen
  obtain ⟨v0, v1, v2, v3, v4, v5, rfl⟩ := six_of hl
  have g0 : DataW.trod enc Tryd.prog w 0 (fun _ => true) true n 35 [v0] = some y0 := by have := hf 0 _ rfl; simpa [c1e] using this
  have g1 : DataW.trod enc Tryd.prog w 0 (fun _ => true) true n 36 [v1] = some y1 := by have := hf 1 _ rfl; simpa [c1e, c1f] using this
  have g2 : DataW.trod enc Tryd.prog w 0 (fun _ => true) true n 24 [v2, v3, v4, v5] = some y2 := by have := hf 2 _ rfl; simpa [c1e, c1f, cells24] using this
  clear hf h
  have hz : ∀ z, z ∈ y0.1.weights Tryd.prog 35 ++ (y1.1.weights Tryd.prog 36 ++ y2.1.weights Tryd.prog 24) → z ≤ reachBytes := fun z hz => hw z (by
    simp only [List.map_cons, List.map_nil, DataW.weights, Tryd.underlying38, DataW.weightsEach]
    simpa using hz)
  obtain ⟨l, A, c, rfl, hd⟩ := decls_of_trod g0 (fun z h => hz z (by simp [h]))
  obtain ⟨m, B, d, hs, rfl, hp, hpb⟩ := prcs_of_trod g1 (fun z h => hz z (by simp [h]))
  obtain ⟨t, C, e, e1, hin, hbk⟩ := node_of_trod_bulk enc w n _ _ g2 (fun z h => hz z (by simp [h]))
  simp only [List.cons.injEq, and_true] at e1
  obtain ⟨rfl, rfl, rfl, rfl⟩ := e1
  have u0 : Rows.uptoBulk y1.1 ≤ Rows.uptoBulk (DataW.agg ([y0, y1, y2].map (·.1))) := by
    simp only [List.map_cons, List.map_nil, Rows.uptoBulk, Rows.uptoBulkAll]; omega
  refine ⟨⟨l, m, t⟩, ⟨A, c, B, d, C, e⟩, rfl, ⟨hd, ⟨hs, hp⟩, hin⟩, Nat.le_trans hbk ?_, fun f hf => Nat.le_trans (hpb f hf) ?_⟩
  · simp only [List.map_cons, List.map_nil, Rows.uptoBulk, Rows.uptoBulkAll]; omega
  · simpa using u0
theorem agg6_of {v : Value} {p : Prg} {g : GH} (h : v.cells.toList = p.cells g) : v = (.agg #[.slice g.A p.vars.length g.c, .slice g.B p.procs.length g.d, .int .u8 p.main.kind, .int .i64 p.main.num, .string p.main.name, .slice g.C p.main.kids.length g.e]) := by
  unfold Prg.cells at h
  cases v <;> simp [Value.cells] at h
  rename_i cs
  congr 1
  apply Array.toList_inj.1
  simpa using h
def prg0 : Value := .agg #[.slice none 0 0, .slice none 0 0, .int .u8 0, .int .i64 0, .string ⟨#[]⟩, .slice none 0 0]
end Go.Proofs.YtgjanglonccclaaDoor
