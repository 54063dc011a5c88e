/- The law's own helpers: op, block; and what the tests with a known answer come to. -/
import Derived.Test.YtgjanglonccclaaDoorRefCan
import Derived.Test.YtgjanglonccclaaDoorSim4
namespace Go.Proofs.YtgjanglonccclaaDoor
open Go.RowKit
set_option linter.unusedVariables false
set_option linter.unusedSimpArgs false

def opN (k : Int) (s : ByteArray) : Node := ⟨k, 0, ⟨#[]⟩, [⟨2, 0, s, []⟩, ⟨1, 1, ⟨#[]⟩, []⟩]⟩
def sx : ByteArray := ⟨#[120]⟩
def sy : ByteArray := ⟨#[121]⟩
def b1 : Node := ⟨57, 0, ⟨#[]⟩, [opN 40 sx, opN 42 sy, opN 42 sy, opN 41 sx]⟩
def b2 : Node := ⟨57, 0, ⟨#[]⟩, [opN 56 sx, opN 56 sx]⟩
def b3 : Node := ⟨57, 0, ⟨#[]⟩, [opN 40 sx, opN 40 sx]⟩
theorem blockB_b1 : (blockB b1).kind = 57 ∧ (blockB b1).kids.length = 0 := by decide +kernel
theorem blockB_b2 : (blockB b2).kids.length = 2 := by decide +kernel
theorem blockB_b3 : (blockB b3).kids.length = 2 := by decide +kernel
theorem cancels_known : cancelsB (opN 40 sx) (opN 41 sx) = true := by decide +kernel

def OpRet (w : World) (t : Node) (e : Ending) (w' : World) : Prop :=
  ∃ A c, e = .returned (.agg #[.int .u8 t.kind, .int .i64 t.num, .string t.name, .slice A t.kids.length c]) ∧ Below w.heap.size w w' ∧ t.In w' (fun _ => True) A c
theorem leaf_In {w : World} {ok : Nat → Prop} {t : Node} (hf : t.Fits) (hk : t.kids = []) (A : Option Addr) (c : Nat) : t.In w ok A c := by
  rw [Node.In_eq, hk]
  exact ⟨hf, Nat.zero_le _, by simp, .inl rfl⟩
theorem op_any (k : Int) (s : ByteArray) (h0 : 0 ≤ k) (h1 : k ≤ 255) (hs : s.size ≤ 140737488355328) (w : World) :
    Calls Tryd.prog 30 #[.int .u8 k, .string s] w (OpRet w (opN k s)) := by
  go_enter Tryd.func30, Tryd.ntmps30
  go_wp2_with fail
  have hin := In_new (w1 := w.alloc (.cells #[.int .u8 k, .int .i64 0, .string ⟨#[]⟩, .slice (some ⟨w.heap.size + 1, 0, none⟩) 2 2] 24)) (X := fun _ => False) (u := opN k s) (hs := [⟨none, 0, fun _ => True⟩, ⟨none, 0, fun _ => True⟩])
    (cs := #[.int .u8 2, .int .i64 0, .string s, .slice none 0 0, .int .u8 1, .int .i64 1, .string ⟨#[]⟩, .slice none 0 0])
    ⟨h0, h1, by simp [opN], by simp [opN], by simp [opN, ByteArray.size]⟩ (by simp [opN]) rfl (fun j h2 h3 => by
      rcases (show j = 0 ∨ j = 1 by simp [opN] at h2; omega) with rfl | rfl
      · exact leaf_In ⟨by simp [opN], by simp [opN], by simp [opN], by simp [opN], hs⟩ rfl _ _
      · exact leaf_In ⟨by simp [opN], by simp [opN], by simp [opN], by simp [opN], by simp [opN, ByteArray.size]⟩ rfl _ _) (fun h => h) rfl
  rw [World.size_alloc] at hin
  have hb : ((w.alloc (.cells #[.int .u8 k, .int .i64 0, .string ⟨#[]⟩, .slice (some ⟨w.heap.size + 1, 0, none⟩) 2 2] 24)).alloc (.cells #[.int .u8 2, .int .i64 0, .string s, .slice none 0 0, .int .u8 1, .int .i64 1, .string ⟨#[]⟩, .slice none 0 0] 24)).heap[w.heap.size]? = some (.cells #[.int .u8 k, .int .i64 0, .string ⟨#[]⟩, .slice (some ⟨w.heap.size + 1, 0, none⟩) 2 2] 24) := by
    rw [(Go.MapKept.heap_alloc _ _).2 _ (by simp)]; exact heap_alloc_new w _
  refine bodyPost_ret (v := .agg #[.int .u8 k, .int .i64 0, .string ⟨#[]⟩, .slice (some ⟨w.heap.size + 1, 0, none⟩) 2 2]) ?_ rfl ⟨some ⟨w.heap.size + 1, 0, none⟩, 2, rfl, ext_alloc (ext_alloc (Below.refl _ _) _) _, Node.In.move (fun _ _ _ => rfl) (fun _ _ _ => trivial) _ hin⟩
  have hc := four_cells hb
  simp [results, Tryd.results30, go_sem, hc]

theorem lawBlock_any (ks : List Node) (A : Option Addr) (c : Nat) (w : World) :
    Calls Tryd.prog 19 #[.slice A ks.length c] w fun e w' => e = .returned (.agg #[.int .u8 57, .int .i64 0, .string ⟨#[]⟩, .slice A ks.length c]) ∧ Below w.heap.size w w' := by
  go_enter Tryd.func19, Tryd.ntmps19
  go_wp2_with fail
  have hb := heap_alloc_new w (.cells #[.int .u8 57, .int .i64 0, .string ⟨#[]⟩, .slice A ks.length c] 24)
  refine bodyPost_ret (v := .agg #[.int .u8 57, .int .i64 0, .string ⟨#[]⟩, .slice A ks.length c]) ?_ rfl ⟨rfl, ext_alloc (Below.refl _ _) _⟩
  have hc := four_cells hb
  simp [results, Tryd.results19, go_sem, hc]
end Go.Proofs.YtgjanglonccclaaDoor
