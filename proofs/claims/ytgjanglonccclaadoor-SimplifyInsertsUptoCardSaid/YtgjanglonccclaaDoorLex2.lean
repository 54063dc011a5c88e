/- Contracts of package lexer, second part: span, keywords, Keyword, signs, next, Name. -/
import Derived.Test.YtgjanglonccclaaDoorLex
namespace Go.Proofs.YtgjanglonccclaaDoor
open Go.RowKit Go.MapKept
set_option linter.unusedVariables false
set_option linter.unusedSimpArgs false

/-- A test over bytes, as a function value. -/
def ByteTest (fn : FuncId) (p : Int → Bool) : Prop := ∀ (c : Int) (w : World), Calls Tryd.prog fn #[.int .u8 c] w fun e w' => e = .returned (.bool (p c)) ∧ w = w'

theorem byte_at (s : ByteArray) {k : Nat} (h : k < s.size) : s.data.toList[k]'(by rw [Array.length_toList]; exact h) = s[k] := rfl

theorem span_any (s : ByteArray) (hs : s.size ≤ 140737488355328) (fn : FuncId) (hg : Goes fn) (p : Int → Bool) (hp : ByteTest fn p) (w : World) :
    Calls Tryd.prog 76 #[.string s, .func (.func fn) #[] #[]] w fun e w' => e = .returned (.int .i64 (spanL p s.data.toList)) ∧ w = w' := by
  have HP := Hd.mk hp
  have hz : (s.size : Int) ≤ 140737488355328 := by omega
  clear hp
  have hgo : ∀ (args : Array Value) (w : World), (callFunc fn args).run Tryd.prog w = .ok (.enter fn args) w := hg
  clear hg
  go_enter Tryd.func76, Tryd.ntmps76
  go_wp2_with fail
  go_loopw [5] (fun v5 W => ∃ j : Nat, j ≤ s.size ∧ v5 = .int .i64 j ∧ Hd (∀ c ∈ s.data.toList.take j, p (c.toNat : Int) = true) ∧ w = W) (fun v5 _ => s.size - (intOf v5).toNat)
  case atStart => exact ⟨0, Nat.zero_le _, rfl, ⟨by simp⟩, rfl⟩
  case round =>
    obtain ⟨j, hj, rfl, HS, rfl⟩ := hrel
    by_cases hlt : j < s.size
    · have HC := Hd.mk (HP.out (s[j].toNat : Int) w)
      have hj' : j < s.data.toList.length := by rw [Array.length_toList]; exact hlt
      cases hpj : p (s[j].toNat : Int)
      · rw [hpj] at HC
        have HH := Hd.mk hpj
        clear hpj
        go_wp2_with (refine (HC.out).mono ?_; rintro e w' ⟨rfl, rfl⟩)
        go_ret
        exact ⟨ret_int (by rw [spanL_at HS.out hj' HH.out]), rfl⟩
      · rw [hpj] at HC
        have HH := Hd.mk hpj
        clear hpj
        go_wp2_with (refine (HC.out).mono ?_; rintro e w' ⟨rfl, rfl⟩)
        go_roundw
        case rel => exact ⟨j + 1, hlt, by go_num, ⟨all_take_succ hj' HS.out HH.out⟩, by trivial⟩
        case measure => simp [intOf]; omega
    · have : j = s.size := by omega
      subst this
      go_wp2_with fail
      go_ret
      have hl : s.data.toList.length = s.size := by rw [Array.length_toList]; rfl
      exact ⟨ret_int (by rw [spanL_full (by have := HS.out; rwa [← hl, List.take_length] at this), hl]), rfl⟩

def kwText : ByteArray := ⟨#[105, 110, 116, 32, 97, 114, 114, 97, 121, 32, 115, 116, 97, 99, 107, 32, 112, 114, 111, 99, 32, 109, 97, 105, 110, 32, 112, 117, 115, 104, 32, 112, 111, 112, 32, 114, 101, 97, 100, 32, 117, 110, 114, 101, 97, 100, 32, 119, 114, 105, 116, 101, 32, 117, 110, 119, 114, 105, 116, 101, 32, 99, 97, 108, 108, 32, 117, 110, 99, 97, 108, 108, 32, 105, 102, 32, 101, 108, 115, 101, 32, 102, 105, 32, 102, 114, 111, 109, 32, 108, 111, 111, 112, 32, 117, 110, 116, 105, 108, 32, 108, 111, 99, 97, 108, 32, 100, 101, 108, 111, 99, 97, 108, 32, 116, 111, 112, 32, 115, 105, 122, 101]⟩
def signText : ByteArray := ⟨#[60, 61, 62, 32, 58, 61, 32, 43, 61, 32, 45, 61, 32, 94, 61, 32, 61, 61, 32, 33, 61, 32, 60, 61, 32, 62, 61, 32, 38, 38, 32, 124, 124, 32, 43, 32, 45, 32, 42, 32, 47, 32, 37, 32, 38, 32, 124, 32, 94, 32, 33, 32, 61, 32, 60, 32, 62, 32, 40, 32, 41, 32, 123, 32, 125, 32, 91, 32, 93, 32, 59, 32, 44]⟩
theorem kw_fields : Lib.fields kwText.data.toList = kwBytes := by decide +kernel
theorem kw_nodup : kwBytes.Nodup := by decide +kernel

/-- The entries of the map of keywords when k of them have been put in. -/
def kwEntries (k : Nat) : Array MapEntry := ((kwBytes.take k).zipIdx.map fun x => { key := .string ⟨x.1.toArray⟩, val := .bool true, born := x.2 : MapEntry }).toArray

theorem ba_beq (a b : ByteArray) : (a == b) = decide (a.data.toList = b.data.toList) := by
  have h : (a == b) = (a.data == b.data) := by cases a; cases b; rfl
  rw [h, Bool.eq_iff_iff]
  simp [Array.toList_inj]
theorem findNow_no (s : ByteArray) : ∀ (l : List (List UInt8 × Nat)) (i : Nat), (∀ x ∈ l, x.1 ≠ s.data.toList) →
    Instr.findNow .string (.string s) (l.map fun x => { key := .string ⟨x.1.toArray⟩, val := .bool true, born := x.2 : MapEntry }) i = some none
  | [], _, _ => rfl
  | x :: l, i, h => by
    have h1 : (s == (⟨x.1.toArray⟩ : ByteArray)) = false := by
      rw [ba_beq, decide_eq_false_iff_not]
      intro e
      exact h x (by simp) e.symm
    simp only [List.map_cons, Instr.findNow, Instr.sameNow, h1]
    exact findNow_no s l (i + 1) (fun y hy => h y (by simp [hy]))
theorem findNow_yes (s : ByteArray) : ∀ (l : List (List UInt8 × Nat)) (i : Nat), (∃ x ∈ l, x.1 = s.data.toList) →
    ∃ j, Instr.findNow .string (.string s) (l.map fun x => { key := .string ⟨x.1.toArray⟩, val := .bool true, born := x.2 : MapEntry }) i = some (some (j, .bool true))
  | [], _, h => by obtain ⟨x, hx, _⟩ := h; simp at hx
  | x :: l, i, h => by
    cases h1 : (s == (⟨x.1.toArray⟩ : ByteArray)) with
    | true => exact ⟨i, by simp only [List.map_cons, Instr.findNow, Instr.sameNow, h1]⟩
    | false =>
      obtain ⟨y, hy, he⟩ := h
      rcases List.mem_cons.1 hy with rfl | hy
      · exfalso
        rw [ba_beq, decide_eq_false_iff_not] at h1
        exact h1 he.symm
      · obtain ⟨j, hj⟩ := findNow_yes s l (i + 1) ⟨y, hy, he⟩
        exact ⟨j, by simp only [List.map_cons, Instr.findNow, Instr.sameNow, h1]; exact hj⟩

theorem kwEntries_toList (k : Nat) : (kwEntries k).toList = (kwBytes.take k).zipIdx.map fun x => { key := .string ⟨x.1.toArray⟩, val := .bool true, born := x.2 : MapEntry } := rfl
theorem kwEntries_succ {k : Nat} (h : k < kwBytes.length) : kwEntries (k + 1) = (kwEntries k).push { key := .string ⟨kwBytes[k].toArray⟩, val := .bool true, born := k } := by
  apply Array.toList_inj.1
  rw [Array.toList_push, kwEntries_toList, kwEntries_toList, List.take_succ_eq_append_getElem h, List.zipIdx_append, List.map_append]
  simp [Nat.min_eq_left (Nat.le_of_lt h)]

/-- World w with another object in block r. -/
def putObj (w : World) (r : Nat) (o : Obj) : World := { w with heap := w.heap.setIfInBounds r o }
theorem putObj_same {w : World} {r : Nat} {o0 o : Obj} (h : w.heap[r]? = some o0) : (putObj w r o).heap[r]? = some o := (heap_set h).1
theorem putObj_other (w : World) {r b : Nat} (o : Obj) (h : b ≠ r) : (putObj w r o).heap[b]? = w.heap[b]? := by simp [putObj, Ne.symm h]
theorem putObj_below {B : Nat} {w W : World} (h : Below B w W) {r : Nat} (hr : B ≤ r) (o : Obj) : Below B w (putObj W r o) :=
  h.trans ⟨rfl, rfl, rfl, by simp [putObj], fun k hk => putObj_other W o (by omega)⟩

/-- 'set[w] = true' for a word that is not there yet. -/
theorem kw_store (w : World) (r k : Nat) (hk : k < kwBytes.length) (hb : w.heap[r]? = some (.map (kwEntries k) k)) :
    (Instr.mapUpdate 95 (.map (some r)) (.string ⟨kwBytes[k].toArray⟩) (.bool true)).run Tryd.prog w = .ok () (putObj w r (.map (kwEntries (k + 1)) (k + 1))) := by
  have hno : Instr.findNow .string (.string ⟨kwBytes[k].toArray⟩) (kwEntries k).toList 0 = some none := by
    rw [kwEntries_toList]
    refine findNow_no _ _ _ fun x hx e => ?_
    have hx1 : x.1 ∈ kwBytes.take k := List.fst_mem_of_mem_zipIdx hx
    obtain ⟨i, hi, he⟩ := List.mem_take_iff_getElem.1 hx1
    have e2 : x.1 = kwBytes[k] := by simpa using e
    rw [← he] at e2
    have := (List.getElem_inj kw_nodup).1 e2
    omega
  have hkey : IsKey .string (.string ⟨kwBytes[k].toArray⟩) := trivial
  rw [kwEntries_succ hk]
  simp [Instr.mapUpdate, run_underlying Tryd.underlying95, Go.MapKept.run_getObj_map hb, Go.MapKept.run_checkKey Tryd.underlying9 hkey, Go.MapKept.run_findKey Tryd.underlying9 hno, Go.MapKept.run_setObj_map _ hb, Result.andThen, putObj]

theorem kw_lookup (w : World) (r : Nat) (s : ByteArray) (hb : w.heap[r]? = some (.map (kwEntries kwBytes.length) kwBytes.length)) :
    (Instr.lookup 95 (.map (some r)) (.string s) false).run Tryd.prog w = .ok (.bool (keywordB s)) w := by
  have hkey : IsKey .string (.string s) := trivial
  by_cases h : s.data.toList ∈ kwBytes
  · have h1 : keywordB s = true := by simp [keywordB, h]
    obtain ⟨j, hj⟩ : ∃ j, Instr.findNow .string (.string s) (kwEntries kwBytes.length).toList 0 = some (some (j, .bool true)) := by
      rw [kwEntries_toList]
      obtain ⟨i, hi, he⟩ := List.getElem_of_mem h
      exact findNow_yes _ _ _ ⟨(kwBytes[i], i), by rw [List.take_length, List.mem_zipIdx_iff_getElem?]; simp [hi], he⟩
    rw [h1]
    simp [Instr.lookup, run_underlying Tryd.underlying95, Go.MapKept.run_getObj_map hb, Go.MapKept.run_checkKey Tryd.underlying9 hkey, Go.MapKept.run_findKey Tryd.underlying9 hj, Result.andThen]
  · have h1 : keywordB s = false := by simp [keywordB, h]
    have hno : Instr.findNow .string (.string s) (kwEntries kwBytes.length).toList 0 = some none := by
      rw [kwEntries_toList]
      refine findNow_no _ _ _ fun x hx e => ?_
      have hx1 : x.1 ∈ kwBytes.take kwBytes.length := List.fst_mem_of_mem_zipIdx hx
      rw [List.take_length, e] at hx1
      exact h hx1
    rw [h1]
    simp [Instr.lookup, run_underlying Tryd.underlying95, Go.MapKept.run_getObj_map hb, Go.MapKept.run_checkKey Tryd.underlying9 hkey, Go.MapKept.run_findKey Tryd.underlying9 hno, Result.andThen, Tryd.zeroValue4]

theorem kwText_size : kwText.size < 4294967281 := by decide +kernel
theorem kwText_ascii : ∀ (j : Nat) b, kwText.data.toList[j]? = some b → b.toNat < 128 := by
  intro j b h
  have := List.mem_of_getElem? h
  revert b
  have : ∀ b ∈ kwText.data.toList, b.toNat < 128 := by decide +kernel
  exact fun b h1 h2 => this b h2
theorem fields_any (w : World) (hw : Good w) : Calls Tryd.prog 90 #[.string kwText] w fun e w' =>
    e = .returned (.slice (some ⟨w.heap.size, 0, none⟩) kwBytes.length kwBytes.length) ∧ w' = w.alloc (.cells (kwBytes.map fun l => Value.string ⟨l.toArray⟩).toArray 9) := by
  have h := Tryd.strings_Fields kwText w kwText_size kwText_ascii hw
  rw [kw_fields] at h
  exact h

theorem kwCells (w : World) (i : Nat) (hi : i < kwBytes.length) :
    (w.alloc (.cells (kwBytes.map fun l => Value.string ⟨l.toArray⟩).toArray 9)).cell? ⟨w.heap.size, i, none⟩ = some (.string ⟨kwBytes[i].toArray⟩) := by
  have h : (w.alloc (.cells (kwBytes.map fun l => Value.string ⟨l.toArray⟩).toArray 9)).heap[w.heap.size]? = some (.cells (kwBytes.map fun l => Value.string ⟨l.toArray⟩).toArray 9) := (heap_alloc w _).1
  rw [cell_blk h]
  simp [hi]

theorem keywords_any (w : World) (hw : Good w) : Calls Tryd.prog 74 #[] w fun e w' =>
    ∃ r, e = .returned (.map (some r)) ∧ w'.heap[r]? = some (.map (kwEntries kwBytes.length) kwBytes.length) ∧ Below w.heap.size w w' := by
  have HF := Hd.mk (fun (o : Obj) => fields_any (w.alloc o) (hw.below (ext_alloc (Below.refl _ _) _)))
  have hmm := @run_makeMap Tryd.prog
  have hlen : (kwBytes.length : Int) ≤ 1000 := by decide
  go_enter Tryd.func74, Tryd.ntmps74
  go_wp2_with (refine (HF.out _).mono ?_; rintro e w' ⟨rfl, rfl⟩)
  clear hmm
  obtain ⟨B, hB⟩ : ∃ B, w.heap.size = B := ⟨_, rfl⟩
  obtain ⟨W1, hW1⟩ : ∃ W1, (w.alloc (Obj.map #[] 0)).alloc (Obj.cells (kwBytes.map fun l => Value.string ⟨l.toArray⟩).toArray 9) = W1 := ⟨_, rfl⟩
  have HR : Hd (W1.heap[B]? = some (.map (kwEntries 0) 0) ∧ (∀ i (hi : i < kwBytes.length), W1.cell? ⟨B + 1, i, none⟩ = some (.string ⟨kwBytes[i].toArray⟩)) ∧ Below w.heap.size w W1 ∧ B + 1 < W1.heap.size) := by
    subst hB hW1
    refine ⟨?_, ?_, ext_alloc (ext_alloc (Below.refl _ _) _) _, by simp⟩
    · rw [(heap_alloc _ _).2 _ (by simp)]
      exact (heap_alloc w _).1
    · intro i hi
      have := kwCells (w.alloc (Obj.map #[] 0)) i hi
      rw [World.size_alloc] at this
      exact this
  rw [hB, hW1]
  clear hW1 HF hw
  have HB := Hd.mk hB
  clear hB
  go_loopw [3, 7] (fun v3 v7 W => ∃ j : Nat, j ≤ kwBytes.length ∧ v7 = .int .i64 j ∧ Hd (W.heap[B]? = some (.map (kwEntries j) j) ∧ (∀ i (hi : i < kwBytes.length), W.cell? ⟨B + 1, i, none⟩ = some (.string ⟨kwBytes[i].toArray⟩)) ∧ Below w.heap.size w W ∧ B + 1 < W.heap.size)) (fun _ v7 _ => kwBytes.length - (intOf v7).toNat)
  case atStart => exact ⟨0, Nat.zero_le _, rfl, HR⟩
  case round =>
    obtain ⟨j, hj, rfl, HS⟩ := hrel
    by_cases hlt : j < kwBytes.length
    · have hc := HS.out.2.1 j hlt
      have hst := kw_store wr B j hlt HS.out.1
      go_wp2_with fail
      clear hst hc
      go_roundw
      case rel => exact ⟨j + 1, hlt, by go_num, ⟨putObj_same HS.out.1, fun i hi => by rw [World.cell?_of_block (putObj_other _ _ (by simp))]; exact HS.out.2.1 i hi, putObj_below HS.out.2.2.1 (by rw [HB.out]; exact Nat.le_refl _) _, by simpa [putObj] using HS.out.2.2.2⟩⟩
      case measure => simp [intOf]; omega
    · have : j = kwBytes.length := by omega
      subst this
      go_wp2_with fail
      go_ret
      exact ⟨B, rfl, HS.out.1, HS.out.2.2.1⟩

theorem keyword_any (s : ByteArray) (w : World) (hw : Good w) : Calls Tryd.prog 54 #[.string s] w fun e w' => e = .returned (.bool (keywordB s)) ∧ Below w.heap.size w w' := by
  have HK := Hd.mk (keywords_any w hw)
  go_enter Tryd.func54, Tryd.ntmps54
  go_wp2_with (refine (HK.out).mono ?_; rintro e w' ⟨r, rfl, hr, hb⟩; have hl := kw_lookup w' r s hr; have HX := Hd.mk hr; clear hr)
  go_ret
  exact ⟨rfl, hb⟩

theorem sg_nonempty : (Lib.fields signText.data.toList).length ≤ 1000 := by decide +kernel
theorem sg_small : ∀ x ∈ Lib.fields signText.data.toList, x.length ≤ 10 := by decide +kernel
theorem signText_size : signText.size < 4294967281 := by decide +kernel
theorem signText_ascii : ∀ (j : Nat) b, signText.data.toList[j]? = some b → b.toNat < 128 := by
  intro j b h
  have := List.mem_of_getElem? h
  revert b
  have : ∀ b ∈ signText.data.toList, b.toNat < 128 := by decide +kernel
  exact fun b h1 h2 => this b h2
def sgBytes : List (List UInt8) := Lib.fields signText.data.toList
theorem signs_any (w : World) (hw : Good w) : Calls Tryd.prog 81 #[] w fun e w' =>
    ∃ b, e = .returned (.slice (some ⟨b, 0, none⟩) sgBytes.length sgBytes.length) ∧ (∀ i (hi : i < sgBytes.length), w'.cell? ⟨b, i, none⟩ = some (.string ⟨sgBytes[i].toArray⟩)) ∧ Below w.heap.size w w' := by
  have HF := Hd.mk (Tryd.strings_Fields signText w signText_size signText_ascii hw)
  go_enter Tryd.func81, Tryd.ntmps81
  go_wp2_with (refine (HF.out).mono ?_; rintro e w' ⟨rfl, rfl⟩)
  go_ret
  refine ⟨w.heap.size, rfl, fun i hi => ?_, ext_alloc (Below.refl _ _) _⟩
  rw [cell_blk (heap_alloc w _).1]
  simp [sgBytes] at hi ⊢
end Go.Proofs.YtgjanglonccclaaDoor
