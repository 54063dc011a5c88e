/- A node as the row's own reading gives it. -/
import Derived.Test.YtgjanglonccclaaDoorRows
import Derived.Test.YtgjanglonccclaaDoorBC
import Derived.SizedLaws
import Derived.Deep.Slices
namespace Go.Proofs.YtgjanglonccclaaDoor
open Go.RowKit
set_option linter.unusedVariables false
set_option linter.unusedSimpArgs false

theorem cells24 : Tryd.prog.cellsOf 24 = 4 := by kernel_rfl
theorem bytes24 : Tryd.prog.bytesOf 24 = 56 := by kernel_rfl
theorem addr_plain (b off i : Nat) : (⟨b, off, none⟩ : Addr).add i = ⟨b, off + i, none⟩ := by
  unfold Addr.add
  split <;> simp_all
theorem c1a : Tryd.prog.cellsOf 5 = 1 := by kernel_rfl
theorem c1b : Tryd.prog.cellsOf 3 = 1 := by kernel_rfl
theorem c1c : Tryd.prog.cellsOf 9 = 1 := by kernel_rfl
theorem c1d : Tryd.prog.cellsOf 22 = 1 := by kernel_rfl
theorem mem_weightsAll {H : Type} {P : Program} {e : TypeId} : ∀ {l : List (DataW H)} {d : DataW H} {y : Nat}, d ∈ l → y ∈ d.weights P e → y ∈ DataW.weightsAll P e l
  | [], _, _, h, _ => by simp at h
  | a :: l, d, y, h, hy => by
    simp only [DataW.weightsAll, List.mem_append]
    rcases List.mem_cons.1 h with rfl | h
    · exact .inl hy
    · exact .inr (mem_weightsAll h hy)

mutual
/-- How many nodes a tree has. -/
def Node.count : Node → Nat
  | ⟨_, _, _, ks⟩ => countAll ks + 1
def countAll : List Node → Nat
  | [] => 0
  | k :: ks => k.count + countAll ks
end
theorem Node.count_eq (t : Node) : t.count = countAll t.kids + 1 := by cases t; simp [Node.count]
theorem length_countAll : ∀ l : List Node, l.length ≤ countAll l
  | [] => Nat.le_refl _
  | k :: ks => by have := length_countAll ks; have := Node.count_eq k; simp only [List.length_cons, countAll]; omega
theorem countAll_le {H : Type} : ∀ (l : List Node) (ds : List (DataW H)), l.length ≤ ds.length → (∀ i (h1 : i < l.length) (h2 : i < ds.length), l[i].count ≤ Rows.uptoBulk ds[i]) → countAll l ≤ Rows.uptoBulkAll ds
  | [], _, _, _ => Nat.zero_le _
  | k :: ks, [], h, _ => by simp at h
  | k :: ks, d :: ds, h, hi => by
    have h0 := hi 0 (by simp) (by simp)
    have := countAll_le ks ds (by simpa using h) (fun i h1 h2 => hi (i + 1) (by simpa using h1) (by simpa using h2))
    simp only [countAll, Rows.uptoBulkAll]
    simp at h0
    omega
theorem four_of {α : Type} {l : List α} (h : l.length = 4) : ∃ a b c d, l = [a, b, c, d] := by
  match l, h with
  | [a, b, c, d], _ => exact ⟨a, b, c, d, rfl⟩

set_option maxRecDepth 100000 in
theorem node_of_trod_bulk {H : Type} (enc : TypeId × Value → H) (w : World) (fuel : Nat) : ∀ (cs : List Value) (x : DataW H × List MemPlace), DataW.trod enc Tryd.prog w 0 (fun _ => true) true fuel 24 cs = some x →
    (∀ y ∈ x.1.weights Tryd.prog 24, y ≤ reachBytes) → ∃ (t : Node) (A : Option Addr) (c : Nat), cs = [.int .u8 t.kind, .int .i64 t.num, .string t.name, .slice A t.kids.length c] ∧ t.In w (fun _ => True) A c ∧ t.count ≤ Rows.uptoBulk x.1 := by
  induction fuel using Nat.strongRecOn with
  | _ fuel ih =>
  intro cs x h hw
  obtain ⟨xs, n, rfl, rfl, hl, hlen, hf⟩ := DataW.trod_struct Tryd.underlying24 h
  rw [cells24] at hl
  obtain ⟨y0, y1, y2, y3, rfl⟩ := four_of hlen
  obtain ⟨v0, v1, v2, v3, rfl⟩ := four_of hl
  have g0 : DataW.trod enc Tryd.prog w 0 (fun _ => true) true n 5 [v0] = some y0 := by have := hf 0 _ rfl; simpa [c1a] using this
  have g1 : DataW.trod enc Tryd.prog w 0 (fun _ => true) true n 3 [v1] = some y1 := by have := hf 1 _ rfl; simpa [c1b] using this
  have g2 : DataW.trod enc Tryd.prog w 0 (fun _ => true) true n 9 [v2] = some y2 := by have := hf 2 _ rfl; simpa [c1c] using this
  have g3 : DataW.trod enc Tryd.prog w 0 (fun _ => true) true n 22 [v3] = some y3 := by have := hf 3 _ rfl; simpa [c1d] using this
  clear hf h
  obtain ⟨k, e0, rfl, wk⟩ := DataW.trod_int Tryd.underlying5 g0
  obtain ⟨m, e1, rfl, wm⟩ := DataW.trod_int Tryd.underlying3 g1
  obtain ⟨s, e2, rfl, ws⟩ := DataW.trod_string Tryd.underlying9 g2
  have hz : ∀ y ∈ (s.data.toList.length :: y3.1.weights Tryd.prog 22), y ≤ reachBytes := fun y hy => hw y (by
    simp only [List.map_cons, List.map_nil, DataW.weights, Tryd.underlying24, DataW.weightsEach]
    simpa using hy)
  injection e0 with e0; injection e1 with e1; injection e2 with e2
  subst e0; subst e1; subst e2
  have hs1 : s.size ≤ 140737488355328 := by
    have := hz s.data.toList.length (by simp)
    simp [reachBytes] at this
    omega
  have hfk : 0 ≤ k ∧ k ≤ 255 := by
    simp [Lit.wf, IntKind.min, IntKind.max, IntKind.signed, IntKind.bits] at wk; omega
  have hfm : -9223372036854775808 ≤ m ∧ m ≤ 9223372036854775807 := by
    simp [Lit.wf, IntKind.min, IntKind.max, IntKind.signed, IntKind.bits] at wm; omega
  rcases DataW.trod_slice Tryd.underlying22 g3 with ⟨e3, rfl⟩ | ⟨a, len, cap, elems, rest, n', rfl, e3, rfl, hb, hle, hcap, hel, hget, _⟩
  · injection e3 with e3
    subst e3
    exact ⟨⟨k, m, s, []⟩, none, 0, rfl, leaf_In ⟨hfk.1, hfk.2, hfm.1, hfm.2, hs1⟩ rfl _ _, by simp [Node.count, countAll, Rows.uptoBulk, Rows.uptoBulkAll]⟩
  · injection e3 with e3
    subst e3
    have hlen56 : len * 56 ≤ 140737488355328 := by
      have := hz ((elems.length + rest.length) * 56) (by simp [DataW.weights, Tryd.underlying22, bytes24])
      simp only [reachBytes] at this
      omega
    have each : ∀ i, i < len → ∃ (q : Node × Option Addr × Nat), (w.cell? (a.add (i * 4)) = some (.int .u8 q.1.kind) ∧ w.cell? (a.add (i * 4 + 1)) = some (.int .i64 q.1.num) ∧ w.cell? (a.add (i * 4 + 2)) = some (.string q.1.name) ∧ w.cell? (a.add (i * 4 + 3)) = some (.slice q.2.1 q.1.kids.length q.2.2)) ∧ q.1.In w (fun _ => True) q.2.1 q.2.2 ∧ ∀ h : i < elems.length, q.1.count ≤ Rows.uptoBulk elems[i].1 := by
      intro i hi
      have hg := hget i hi
      rw [cells24, List.getElem?_eq_getElem (by omega)] at hg
      obtain ⟨cs', hc, ht⟩ := Option.bind_eq_some_iff.1 hg
      obtain ⟨t, A, c, rfl, hin, hbk⟩ := ih n' (by omega) cs' _ ht (fun y hy => hz y (by
        simp only [DataW.weights, Tryd.underlying22, List.mem_cons, List.mem_append]
        exact .inr (.inr (.inl (mem_weightsAll (List.mem_map.2 ⟨_, List.getElem_mem _, rfl⟩) hy)))))
      obtain ⟨_, _, hcell⟩ := World.cells?_some hc
      have c0 := hcell 0 (by omega)
      have c1 := hcell 1 (by omega)
      have c2 := hcell 2 (by omega)
      have c3 := hcell 3 (by omega)
      rw [Deep.add_add] at c0 c1 c2 c3
      exact ⟨(t, A, c), ⟨by simpa using c0, by simpa using c1, by simpa using c2, by simpa using c3⟩, hin, fun h => hbk⟩
    haveI : Inhabited (Node × Option Addr × Nat) := ⟨(⟨0, 0, ⟨#[]⟩, []⟩, none, 0)⟩
    obtain ⟨q, hq⟩ := Deep.choose_lt each
    have hkl : ((List.range len).map fun i => (q i).1).length = len := by simp
    refine ⟨⟨k, m, s, (List.range len).map fun i => (q i).1⟩, some a, cap, by simp, ?_, ?_⟩
    case refine_2 =>
      have := countAll_le ((List.range len).map fun i => (q i).1) (elems.map (·.1)) (by simp; omega) (fun i h1 h2 => by simpa using (hq i (by simpa using h1)).2.2 (by simpa using h2))
      simp only [Node.count, List.map_cons, List.map_nil, Rows.uptoBulk, Rows.uptoBulkAll]
      omega
    rw [Node.In_eq]
    refine ⟨⟨hfk.1, hfk.2, hfm.1, hfm.2, hs1⟩, by simpa using hle, by simpa using hlen56, ?_⟩
    by_cases h0 : len = 0
    · left
      subst h0; rfl
    · right
      obtain ⟨b, o, spot⟩ := a
      have hspot : spot = none := by simpa [Addr.add] using World.cell?_spot (hq 0 (by omega)).1.1
      subst hspot
      refine ⟨b, o, rfl, trivial, RowIn.iff.2 fun j hj => ?_⟩
      have hj2 : j < len := by simpa using hj
      obtain ⟨⟨c0, c1, c2, c3⟩, hin, _⟩ := hq j hj2
      rw [addr_plain] at c0 c1 c2 c3
      have ej : ((List.range len).map fun i => (q i).1)[j] = (q j).1 := by simp
      show NodeAt w (fun _ => True) (((List.range len).map fun i => (q i).1)[j]) b (o + j * 4)
      rw [ej]
      exact ⟨_, _, c0, by simpa [Nat.add_assoc] using c1, by simpa [Nat.add_assoc] using c2, by simpa [Nat.add_assoc] using c3, hin⟩
theorem node_of_trod {H : Type} (enc : TypeId × Value → H) (w : World) (fuel : Nat) (cs : List Value) (x : DataW H × List MemPlace) (h : DataW.trod enc Tryd.prog w 0 (fun _ => true) true fuel 24 cs = some x)
    (hw : ∀ y ∈ x.1.weights Tryd.prog 24, y ≤ reachBytes) : ∃ (t : Node) (A : Option Addr) (c : Nat), cs = [.int .u8 t.kind, .int .i64 t.num, .string t.name, .slice A t.kids.length c] ∧ t.In w (fun _ => True) A c := by
  obtain ⟨t, A, c, h1, h2, _⟩ := node_of_trod_bulk enc w fuel cs x h hw
  exact ⟨t, A, c, h1, h2⟩
end Go.Proofs.YtgjanglonccclaaDoor
