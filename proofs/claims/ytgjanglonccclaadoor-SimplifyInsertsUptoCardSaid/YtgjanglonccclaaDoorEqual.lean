/- Contracts of slices.EqualFunc over nodes and ast.Equal. -/
import Derived.Test.YtgjanglonccclaaDoorBase
import Derived.Test.YtgjanglonccclaaDoorEqP
namespace Go.Proofs.YtgjanglonccclaaDoor
open Go.RowKit
set_option linter.unusedVariables false
set_option linter.unusedSimpArgs false

def EqRuns (a : Node) : Prop := ∀ (b : Node) (A B : Option Addr) (c d : Nat) (w : World) (ok ok' : Nat → Prop), a.In w ok A c → b.In w ok' B d →
  Calls Tryd.prog 39 #[.agg #[.int .u8 a.kind, .int .i64 a.num, .string a.name, .slice A a.kids.length c], .agg #[.int .u8 b.kind, .int .i64 b.num, .string b.name, .slice B b.kids.length d]] w fun e w' => e = .returned (.bool (a.eqB b)) ∧ Below w.heap.size w w'
theorem goes_Equal : Goes 39 := goes_of Tryd.func39 (by kernel_rfl) rfl

theorem equalFunc_any (a b : Node) (A B : Option Addr) (c d : Nat) (w : World) (ok ok' : Nat → Prop) (ha : a.In w ok A c) (hb : b.In w ok' B d) (he : ∀ k ∈ a.kids, EqRuns k) :
    Calls Tryd.prog 59 #[.slice A a.kids.length c, .slice B b.kids.length d, .func (.func 39) #[] #[]] w
      fun e w' => e = .returned (.bool (eqsB a.kids b.kids)) ∧ Below w.heap.size w w' := by
  have HA := Hd.mk ha
  have HB := Hd.mk hb
  have HE := Hd.mk he
  have hl := ha.lenZ
  have hm := hb.lenZ
  clear ha hb he
  cases hlen : ((a.kids.length : Int) != (b.kids.length : Int))
  · have HL := Hd.mk (show a.kids.length = b.kids.length by simp at hlen; omega)
    go_enter Tryd.func59, Tryd.ntmps59
    go_wp2_with fail
    go_loopw [7, 8, 9, 17] (fun v7 v8 v9 v17 W => ∃ j : Nat, j ≤ a.kids.length ∧ v17 = .int .i64 j ∧ Hd (∀ i (h1 : i < a.kids.length) (h2 : i < b.kids.length), i < j → a.kids[i].eqB b.kids[i] = true) ∧ Below w.heap.size w W) (fun _ _ _ v17 _ => a.kids.length - (intOf v17).toNat)
    case atStart => exact ⟨0, Nat.zero_le _, rfl, ⟨fun i _ _ h => by omega⟩, Below.refl _ _⟩
    case round =>
      obtain ⟨j, hj, rfl, HS, HBe⟩ := hrel
      by_cases hlt : j < a.kids.length
      · have hlt2 : j < b.kids.length := by have := HL.out; omega
        obtain ⟨b1, o1, A1, c1, rfl, e0, e1, e2, e3, h4⟩ := (HA.out.below HBe).at_ j hlt
        obtain ⟨b2, o2, B1, d1, rfl, g0, g1, g2, g3, h5⟩ := (HB.out.below HBe).at_ j hlt2
        have HX := Hd.mk (fun W (hb : Below wr.heap.size wr W) => HE.out a.kids[j] (List.getElem_mem _) b.kids[j] A1 B1 c1 d1 W ok ok' (h4.below hb) (h5.below hb))
        have q0 := World.block_lt_of_cell? _ _ g0
        have q1 := World.block_lt_of_cell? _ _ e0
        cases hpj : a.kids[j].eqB b.kids[j]
        · rw [hpj] at HX
          have HF := Hd.mk (eqsB_hit hlt hlt2 hpj).symm
          clear hpj h4 h5
          go_wp2_with (go_at_call 39; refine (HX.out _ (ext_alloc (ext_alloc (Below.refl _ _) _) _)).mono ?_; rintro e w1 ⟨rfl, hb⟩)
          go_ret
          exact ⟨ret_bool HF.out, ext_trans HBe (ext_trans (ext_alloc (ext_alloc (Below.refl _ _) _) _) hb)⟩
        · rw [hpj] at HX
          have HF := Hd.mk hpj
          clear hpj h4 h5
          go_wp2_with (go_at_call 39; refine (HX.out _ (ext_alloc (ext_alloc (Below.refl _ _) _) _)).mono ?_; rintro e w1 ⟨rfl, hb⟩)
          go_roundw
          case rel =>
            refine ⟨j + 1, hlt, by go_num, ⟨fun i h1 h2 h3 => ?_⟩, ext_trans HBe (ext_trans (ext_alloc (ext_alloc (Below.refl _ _) _) _) hb)⟩
            rcases Nat.lt_or_ge i j with h | h
            · exact HS.out i h1 h2 h
            · obtain rfl : i = j := by omega
              exact HF.out
          case measure => simp [intOf]; omega
      · have : j = a.kids.length := by omega
        subst this
        go_wp2_with fail
        go_ret
        exact ⟨ret_bool (eqsB_all HL.out (fun i h1 h2 => HS.out i h1 h2 h1)).symm, HBe⟩
  · have HF := Hd.mk (@eqsB_len a.kids b.kids (by simp at hlen; omega)).symm
    go_enter Tryd.func59, Tryd.ntmps59
    go_wp2_with fail
    go_ret
    exact ⟨ret_bool HF.out, Below.refl _ _⟩

theorem equal_any (a : Node) : EqRuns a := by
  induction a using Node.ind with
  | h a ih =>
  intro b A B c d w ok ok' ha hb
  have HF := Hd.mk (fun W (h : Below w.heap.size w W) => equalFunc_any a b A B c d W ok ok' (ha.below h) (hb.below h) ih)
  have HX := Hd.mk (a.eqB_eq b)
  clear ha hb ih
  cases a0 : (a.kind == b.kind)
  · go_enter Tryd.func39, Tryd.ntmps39
    go_wp2_with fail
    go_ret
    exact ⟨ret_bool (by rw [HX.out, a0]; rfl), ext_alloc (ext_alloc (Below.refl _ _) _) _⟩
  · cases a1 : (a.num == b.num)
    · go_enter Tryd.func39, Tryd.ntmps39
      go_wp2_with fail
      go_ret
      exact ⟨ret_bool (by rw [HX.out, a0, a1]; rfl), ext_alloc (ext_alloc (Below.refl _ _) _) _⟩
    · cases a2 : (a.name.toList == b.name.toList)
      · go_enter Tryd.func39, Tryd.ntmps39
        go_wp2_with fail
        go_ret
        exact ⟨ret_bool (by rw [HX.out, a0, a1, strB, a2]; rfl), ext_alloc (ext_alloc (Below.refl _ _) _) _⟩
      · go_enter Tryd.func39, Tryd.ntmps39
        go_wp2_with (go_at_call 59; refine (HF.out _ (ext_alloc (ext_alloc (Below.refl _ _) _) _)).mono ?_; rintro e w1 ⟨rfl, hb⟩)
        go_ret
        exact ⟨ret_bool (by rw [HX.out, a0, a1, strB, a2]; simp), ext_trans (ext_alloc (ext_alloc (Below.refl _ _) _) _) hb⟩
end Go.Proofs.YtgjanglonccclaaDoor
