/- The law SimplifyEmpties: its walk. -/
import Derived.Test.YtgjanglonccclaaDoorAwake
import Derived.Test.YtgjanglonccclaaDoorRedP
import Derived.Test.YtgjanglonccclaaDoorRowK
namespace Go.Proofs.YtgjanglonccclaaDoor
open Go.RowKit
set_option linter.unusedVariables false
set_option linter.unusedSimpArgs false

theorem emp_pack {t : Node} (h : t.isBlock = true) (hs : ∀ k ∈ t.kids, k.kind ≠ 56) : ∃ (r : Node) (ks : List Node), ks = t.kids ++ r.kids ∧
    (∀ A c W ok, Good W → t.In W ok A c → Calls Tryd.prog 16 #[.agg #[.int .u8 t.kind, .int .i64 t.num, .string t.name, .slice A t.kids.length c]] W (InvRet W r)) ∧
    (∀ A c W ok, Good W → (⟨57, 0, ⟨#[]⟩, ks⟩ : Node).In W ok A c → Calls Tryd.prog 15 #[.agg #[.int .u8 57, .int .i64 0, .string ⟨#[]⟩, .slice A ks.length c]] W fun e w' => e = .returned (.bool true) ∧ Below W.heap.size W w') ∧
    (∀ A c W ok, Good W → (⟨57, 0, ⟨#[]⟩, ks⟩ : Node).In W ok A c → Calls Tryd.prog 17 #[.agg #[.int .u8 57, .int .i64 0, .string ⟨#[]⟩, .slice A ks.length c]] W (BlkRet W t 0)) ∧ r.kids.length = t.kids.length := by
  have hi := inv_isBlock h
  have hb : (⟨57, 0, ⟨#[]⟩, t.kids ++ t.inv.kids⟩ : Node).isBlock = true := by
    have h1 := isBlock_kids h
    have h2 := isBlock_kids hi
    rw [Node.isBlock_eq]
    simp only [Bool.and_eq_true, List.all_eq_true, List.mem_append]
    refine ⟨by decide, by decide, by decide +kernel, fun k hk => ?_⟩
    rcases hk with hk | hk
    · exact h1 k hk
    · exact h2 k hk
  refine ⟨t.inv, _, rfl, ?_, ?_, ?_, Node.inv_kids_length t⟩
  · intro A c W ok hw ht; exact invStmt_any t (.inr h) A c W ok hw ht
  · intro A c W ok hw ht
    have := isBlock_any ⟨57, 0, ⟨#[]⟩, t.kids ++ t.inv.kids⟩ A c W ok hw ht
    rw [hb] at this; exact this
  · intro A c W ok hw ht
    refine (Block_any ⟨57, 0, ⟨#[]⟩, t.kids ++ t.inv.kids⟩ A c W ok hw ht).mono ?_
    rintro e w1 ⟨A1, c1, rfl, hb1, _⟩
    have h1 : (blockB ⟨57, 0, ⟨#[]⟩, t.kids ++ t.inv.kids⟩).kind = 57 := by rw [blockB_eq, if_pos hb, Node.simp_eq]
    have h2 : (blockB ⟨57, 0, ⟨#[]⟩, t.kids ++ t.inv.kids⟩).kids.length = 0 := by rw [blockB_eq, if_pos hb, empties_plain h hs]; rfl
    exact ⟨A1, c1, _, _, by rw [h1, h2], hb1⟩

set_option maxHeartbeats 2500000 in
set_option maxRecDepth 100000 in
theorem empLaw_any (t : Node) (hlen : t.kids.length ≤ 2097152) (A : Option Addr) (c : Nat) (w : World) (ok : Nat → Prop) (hw : Good w) (ht : t.In w ok A c) :
    Calls Tryd.prog 5 #[.agg #[.int .u8 t.kind, .int .i64 t.num, .string t.name, .slice A t.kids.length c]] w fun e w' => e = .returned (.bool true) ∧ Below w.heap.size w w' := by
  have B0 := Hd.mk (Box1.start w t A c)
  have HT := Hd.mk ht
  have HW := Hd.mk hw
  have HL := Hd.mk hlen
  clear ht hw hlen
  go_enter Tryd.func5, Tryd.ntmps5
  go_wp2_with fail
  refine (awake_any _ (HW.out.below B0.out.below)).mono ?_
  rintro e w1 ⟨rfl, hb1⟩
  have B1 := Hd.mk (B0.out.next hb1)
  obtain ⟨⟨x0, x1, x2, x3⟩, hz⟩ := B1.out.facts
  clear hb1
  go_wp2_with fail
  refine (size_any t A c _ _ (HT.out.below B1.out.below)).mono ?_
  rintro e w2 ⟨rfl, hb2⟩
  have B2 := Hd.mk (B1.out.next hb2)
  obtain ⟨⟨x0, x1, x2, x3⟩, hz⟩ := B2.out.facts
  clear hb2
  go_wp2_with fail
  any_goals (go_ret; exact ⟨rfl, B2.out.below⟩)
  have HI := Hd.mk (fun W (h : Below w.heap.size w W) => isBlock_any t A c W ok (HW.out.below h) (HT.out.below h))
  cases hs : t.isBlock
  · rw [hs] at HI
    clear hs
    refine (HI.out _ B2.out.below).mono ?_
    rintro e w3 ⟨rfl, hb3⟩
    have B3 := Hd.mk (B2.out.next hb3)
    clear hb3
    go_wp2_with fail
    go_ret
    exact ⟨rfl, B3.out.below⟩
  · rw [hs] at HI
    have HBl := Hd.mk hs
    clear hs
    refine (HI.out _ B2.out.below).mono ?_
    rintro e w3 ⟨rfl, hb3⟩
    have B3 := Hd.mk (B2.out.next hb3)
    obtain ⟨⟨x0, x1, x2, x3⟩, hz⟩ := B3.out.facts
    clear hb3
    go_wp2_with fail
    have hl := HT.out.lenZ
    go_loop [3] (fun v3 => ∃ j : Nat, j ≤ t.kids.length ∧ v3 = .int .i64 j ∧ Hd (∀ i (h1 : i < t.kids.length), i < j → t.kids[i].kind ≠ 56)) (fun v3 => t.kids.length - (intOf v3).toNat)
    case atStart => exact ⟨0, Nat.zero_le _, rfl, ⟨fun i h1 h2 => by omega⟩⟩
    case round =>
      obtain ⟨j, hj, rfl, HS⟩ := hrel
      by_cases hlt : j < t.kids.length
      · obtain ⟨b1, o1, A1, c1, rfl, e0, e1, e2, e3, h4⟩ := (HT.out.below B3.out.below).at_ j hlt
        clear h4
        cases hk : (t.kids[j].kind == 56)
        · have HK := Hd.mk hk
          go_wp2_with fail
          go_round
          case rel =>
            refine ⟨j + 1, hlt, by go_num, ⟨fun i h1 h2 => ?_⟩⟩
            rcases Nat.lt_or_ge i j with h | h
            · exact HS.out i h1 h
            · obtain rfl : i = j := by omega
              simpa using HK.out
          case measure => simp [intOf]; omega
        · go_wp2_with fail
          go_ret
          exact ⟨rfl, B3.out.below⟩
      · have : j = t.kids.length := by omega
        subst this
        have HS2 := Hd.mk (show ∀ k ∈ t.kids, k.kind ≠ 56 from fun k hk => by
          obtain ⟨i, hi, rfl⟩ := List.getElem_of_mem hk
          exact HS.out i hi hi)
        clear HS
        obtain ⟨r, ks, hks, k1, k2, k3, k4⟩ := emp_pack HBl.out HS2.out
        have K1 := Hd.mk k1; have K2 := Hd.mk k2; have K3 := Hd.mk k3; have K4 := Hd.mk k4
        have HKS := Hd.mk hks
        clear k1 k2 k3 k4 hks
        go_wp2_with fail
        refine (K1.out A c _ ok (HW.out.below B3.out.below) (HT.out.below B3.out.below)).mono ?_
        rintro e w4 ⟨A1, c1, rfl, hb4, ho4⟩
        have B4 := Hd.mk (B3.out.next hb4)
        have HO4 := Hd.mk (ho4.reads r)
        clear hb4 ho4
        obtain ⟨⟨x0, x1, x2, x3⟩, hz⟩ := B4.out.facts
        go_wp2_with fail
        have hb5 := ext_alloc (Below.refl w4.heap.size w4) (.cells #[.int .u8 r.kind, .int .i64 r.num, .string r.name, .slice A1 r.kids.length c1] 24)
        have B5 := Hd.mk (B4.out.next hb5)
        have X5 := Hd.mk (new_block w4 (.cells #[.int .u8 r.kind, .int .i64 r.num, .string r.name, .slice A1 r.kids.length c1] 24))
        have HO5 := Hd.mk (HO4.out.below hb5)
        clear hb5
        generalize hgw : w4.alloc (.cells #[.int .u8 r.kind, .int .i64 r.num, .string r.name, .slice A1 r.kids.length c1] 24) = w5 at B5 X5 HO5
        generalize w4.heap.size = n1 at X5
        clear hgw
        obtain ⟨hs1, q1, q2, q3⟩ := (HT.out.below B5.out.below).parts (N0 := w5.heap.size) (fun _ _ h => h)
        obtain ⟨hs2, s1, s2, s3⟩ := HO5.out.parts (N0 := w5.heap.size) (fun _ _ h => h)
        have HQ1 := Hd.mk q1; have HQ2 := Hd.mk q2; have HQ3 := Hd.mk q3; have HS1 := Hd.mk s1; have HSS2 := Hd.mk s2; have HS3 := Hd.mk s3
        clear q1 q2 q3 s1 s2 s3
        obtain ⟨x0, x1, x2, x3⟩ := four_cells B5.out.box
        obtain ⟨y0, y1, y2, y3⟩ := four_cells X5.out
        obtain ⟨i0, hi, hz0, hz1, hz2⟩ := info_parts infoNode
        have HBE := Hd.mk B5.out.below
        have HN1 := Hd.mk (fun (W : World) (hb : Below w5.heap.size w5 W) ad (had : A = some ad) j u (hu : (valsAll t.kids hs1)[j]? = some u) => show W.cell? (ad.add j) = some u by
          have := HQ3.out ad had j u hu
          rw [hb.cell (World.block_lt_of_cell? _ _ this)]; exact this)
        have HN2 := Hd.mk (fun (W : World) (hb : Below w5.heap.size w5 W) ad (had : A1 = some ad) j u (hu : (valsAll r.kids hs2)[j]? = some u) => show W.cell? (ad.add j) = some u by
          have := HS3.out ad had j u hu
          rw [hb.cell (World.block_lt_of_cell? _ _ this)]; exact this)
        have HVL1 := Hd.mk (valsAll_length HQ1.out.len)
        have HVL2 := Hd.mk (valsAll_length HS1.out.len)
        have H1C : Hd (∀ u ∈ valsAll t.kids hs1, u.oneCell' = true) := ⟨vals_one _ _⟩
        have H2C : Hd (∀ u ∈ valsAll r.kids hs2, u.oneCell' = true) := ⟨vals_one _ _⟩
        have M1 : Hd (t.kids.length ≤ maxLen ∧ t.kids.length * 56 ≤ 140737488355328 ∧ t.kids.length + r.kids.length ≤ maxLen ∧ (t.kids.length + r.kids.length) * 56 ≤ 140737488355328) := ⟨by have := HL.out; have := K4.out; simp only [maxLen]; omega⟩
        clear HQ3 HS3
        have hlw := stands_lt B5.out.box
        have hln := stands_lt X5.out
        go_cut [6] (fun v6 wx => BothIn w5 ks v6 wx)
        case first =>
          go_region_held3 (fun W' => W'.cell? ⟨w.heap.size, 3, none⟩ = some (.slice A t.kids.length c) ∧ W'.cell? ⟨n1, 3, none⟩ = some (.slice A1 r.kids.length c1)) (first | go_keep | (refine ⟨?_, ?_⟩ <;> first | exact (set4_keep (by omega) _ _ _ _ _).trans x3 | exact (set4_keep (by omega) _ _ _ _ _).trans y3)) (first
            | (have hh := HR2.out; have hz7 := BW7.out.size; go_at_call 19; refine (lawBlock_n _ _ _ _).mono ?_; rintro e w8 ⟨rfl, hb8⟩; refine have_then (p := Below w7.heap.size w7 w8) ?_ (fun hb9 => ?_); (focus (first | (with_reducible exact hb8) | exact ext_trans (ext_alloc (Below.refl _ _) _) hb8)); have BW8 := Hd.mk (ext_trans BW7.out hb9); obtain ⟨x0, x1, x2, x3⟩ := four_cells (stands B5.out.box BW8.out); obtain ⟨y0, y1, y2, y3⟩ := four_cells (stands X5.out BW8.out); have HR3 := Hd.mk (row_of_block HR2.out (fun g hg => hb9.block g (row_lt HR2.out hg))); (try (have hp8 := Hd.mk (stands hp7.out hb9); have hne8 := hne7)); (try (have hp8 := Hd.mk (stands (new_block w7 (.cells #[.int .u8 0, .int .i64 0, .string ⟨#[]⟩, .slice none 0 0] 24)) hb8); have hne8 := Hd.mk (own_lt HR2.out))); (try (have hp9 := hp8.out; have f0 := blk_free hp9 0; have f1 := blk_free hp9 1; have f2 := blk_free hp9 2; have f3 := blk_free hp9 3; have hq9 := four_cells hp9; obtain ⟨p0, p1, p2, p3⟩ := hq9; clear hp9)))
            | (have hh := HR1.out; have hz6 := BW6.out.size; refine step_append_to (by rfl) _ _ _ (by rfl) w5.heap.size 24 i0 _ 4 56 Tryd.underlying22 hi hz0 hz1 hz2 rfl (by omega) (.slice A2 t.kids.length c2) t.kids.length (valsAll t.kids hs1) A1 r.kids.length c1 (valsAll r.kids hs2) (t.kids.length + r.kids.length) (valsAll t.kids hs1 ++ valsAll r.kids hs2) rfl rfl (by rfl) ?_ (by rfl) HVL2.out HSS2.out (HN2.out _ ?_) H2C.out M1.out.2.2.1 M1.out.2.2.2 ?_ ?_; (focus (first | (with_reducible exact HR1.out) | exact HR1.out.alloc _)); (focus ((repeat first | (with_reducible exact Below.refl _ _) | (with_reducible exact BW6.out) | (with_reducible exact BW7.out) | (with_reducible refine Below.drew ?_) | (with_reducible refine ext_alloc ?_ _)); done)); (focus (have := BW6.out.size; first | omega | (simp; done) | (simp; omega))); intro A3 c3 w7 hrow3 hgr3 hat3; refine have_then (p := Hd (Below w5.heap.size w5 w7)) ⟨below_grown ?_ hgr3 (fun g hg => ownsRow_ge hh g hg) ?_⟩ (fun BW7 => ?_); (focus ((repeat first | (with_reducible exact Below.refl _ _) | (with_reducible exact BW6.out) | (with_reducible exact BW7.out) | (with_reducible refine Below.drew ?_) | (with_reducible refine ext_alloc ?_ _)); done)); (focus (have := BW6.out.size; first | omega | (simp; done) | (simp; omega))); obtain ⟨x0, x1, x2, x3⟩ := four_cells (stands B5.out.box BW7.out); obtain ⟨y0, y1, y2, y3⟩ := four_cells (stands X5.out BW7.out); have HR2 := Hd.mk hrow3; (try (have hp7 := Hd.mk ((hgr3.block _ (stands_lt hp.out) hne.out).trans hp.out); have hne7 := Hd.mk (own_ne2 hat3 hne.out (stands_lt hp.out)))); (try (have hp7 := Hd.mk ((hgr3.block w6.heap.size (stands_lt (new_block w6 (.cells #[.int .u8 0, .int .i64 0, .string ⟨#[]⟩, .slice none 0 0] 24))) (own_lt HR1.out)).trans (new_block w6 (.cells #[.int .u8 0, .int .i64 0, .string ⟨#[]⟩, .slice none 0 0] 24))); have hne7 := Hd.mk (own_ne2 hat3 (own_lt HR1.out) (stands_lt (new_block w6 (.cells #[.int .u8 0, .int .i64 0, .string ⟨#[]⟩, .slice none 0 0] 24)))))); have HAT3 := Hd.mk hat3; clear hrow3 hgr3 hat3)
            | (refine step_append_to (by rfl) _ _ _ (by rfl) w5.heap.size 24 i0 _ 4 56 Tryd.underlying22 hi hz0 hz1 hz2 rfl (by omega) (.slice (some ⟨w5.heap.size, 0, none⟩) 0 0) 0 [] A t.kids.length c (valsAll t.kids hs1) t.kids.length (valsAll t.kids hs1) (Nat.zero_add _) rfl (by rfl) (empty_at ?_ ?_) (by rfl) HVL1.out HQ2.out (HN1.out _ ?_) H1C.out M1.out.1 M1.out.2.1 ?_ ?_; (focus (first | omega | (simp; done) | (simp; omega))); (focus ((repeat first | ((with_reducible refine blk_top ?_); (first | rfl | (simp; done))) | (with_reducible refine blk_drew ?_) | (with_reducible refine blk_sub ?_)); done)); (focus ((repeat first | (with_reducible exact Below.refl _ _) | (with_reducible refine Below.drew ?_) | (with_reducible refine ext_alloc ?_ _)); done)); (focus (first | omega | (simp; done) | (simp; omega))); intro A2 c2 w6 hrow hgr hat; refine have_then (p := Hd (Below w5.heap.size w5 w6)) ⟨below_grown ?_ hgr ?_ ?_⟩ (fun BW6 => ?_); (focus ((repeat first | (with_reducible exact Below.refl _ _) | (with_reducible refine Below.drew ?_) | (with_reducible refine ext_alloc ?_ _)); done)); (focus (simp [Value.ownBlock]; done)); (focus (first | omega | (simp; done) | (simp; omega))); obtain ⟨x0, x1, x2, x3⟩ := four_cells (stands B5.out.box BW6.out); obtain ⟨y0, y1, y2, y3⟩ := four_cells (stands X5.out BW6.out); have HR1 := Hd.mk hrow; (try (refine have_then (p := Hd (w6.heap[w5.heap.size]? = some (.cells #[.int .u8 0, .int .i64 0, .string ⟨#[]⟩, .slice none 0 0] 24))) ⟨(hgr.block _ ?_ ?_).trans ?_⟩ (fun hp => ?_); (focus (first | omega | (simp; done) | (simp; omega))); (focus (simp [Value.ownBlock]; done)); (focus ((repeat first | ((with_reducible refine blk_top ?_); (first | rfl | (simp; done))) | (with_reducible refine blk_drew ?_) | (with_reducible refine blk_sub ?_)); done)); refine have_then (p := Hd (some (w5.heap.size) ≠ (Value.slice A2 t.kids.length c2).ownBlock)) ⟨own_ne hat ?_ ?_⟩ (fun hne => ?_); (focus (first | omega | (simp; done) | (simp; omega))); (focus (first | omega | (simp; done) | (simp; omega))))); (try (refine have_then (p := Hd (w6.heap[w5.heap.size + 1]? = some (.cells #[.int .u8 0, .int .i64 0, .string ⟨#[]⟩, .slice none 0 0] 24))) ⟨(hgr.block _ ?_ ?_).trans ?_⟩ (fun hp => ?_); (focus (first | omega | (simp; done) | (simp; omega))); (focus (simp [Value.ownBlock]; done)); (focus ((repeat first | ((with_reducible refine blk_top ?_); (first | rfl | (simp; done))) | (with_reducible refine blk_drew ?_) | (with_reducible refine blk_sub ?_)); done)); refine have_then (p := Hd (some (w5.heap.size + 1) ≠ (Value.slice A2 t.kids.length c2).ownBlock)) ⟨own_ne hat ?_ ?_⟩ (fun hne => ?_); (focus (first | omega | (simp; done) | (simp; omega))); (focus (first | omega | (simp; done) | (simp; omega))))); have HAT := Hd.mk hat; clear hrow hgr hat)
            | (refine step_append_to (by rfl) _ _ _ (by rfl) w5.heap.size 24 i0 _ 4 56 Tryd.underlying22 hi hz0 hz1 hz2 rfl (by omega) (.slice (some ⟨w5.heap.size + 1, 0, none⟩) 0 0) 0 [] A t.kids.length c (valsAll t.kids hs1) t.kids.length (valsAll t.kids hs1) (Nat.zero_add _) rfl (by rfl) (empty_at ?_ ?_) (by rfl) HVL1.out HQ2.out (HN1.out _ ?_) H1C.out M1.out.1 M1.out.2.1 ?_ ?_; (focus (first | omega | (simp; done) | (simp; omega))); (focus ((repeat first | ((with_reducible refine blk_top ?_); (first | rfl | (simp; done))) | (with_reducible refine blk_drew ?_) | (with_reducible refine blk_sub ?_)); done)); (focus ((repeat first | (with_reducible exact Below.refl _ _) | (with_reducible refine Below.drew ?_) | (with_reducible refine ext_alloc ?_ _)); done)); (focus (first | omega | (simp; done) | (simp; omega))); intro A2 c2 w6 hrow hgr hat; refine have_then (p := Hd (Below w5.heap.size w5 w6)) ⟨below_grown ?_ hgr ?_ ?_⟩ (fun BW6 => ?_); (focus ((repeat first | (with_reducible exact Below.refl _ _) | (with_reducible refine Below.drew ?_) | (with_reducible refine ext_alloc ?_ _)); done)); (focus (simp [Value.ownBlock]; done)); (focus (first | omega | (simp; done) | (simp; omega))); obtain ⟨x0, x1, x2, x3⟩ := four_cells (stands B5.out.box BW6.out); obtain ⟨y0, y1, y2, y3⟩ := four_cells (stands X5.out BW6.out); have HR1 := Hd.mk hrow; (try (refine have_then (p := Hd (w6.heap[w5.heap.size]? = some (.cells #[.int .u8 0, .int .i64 0, .string ⟨#[]⟩, .slice none 0 0] 24))) ⟨(hgr.block _ ?_ ?_).trans ?_⟩ (fun hp => ?_); (focus (first | omega | (simp; done) | (simp; omega))); (focus (simp [Value.ownBlock]; done)); (focus ((repeat first | ((with_reducible refine blk_top ?_); (first | rfl | (simp; done))) | (with_reducible refine blk_drew ?_) | (with_reducible refine blk_sub ?_)); done)); refine have_then (p := Hd (some (w5.heap.size) ≠ (Value.slice A2 t.kids.length c2).ownBlock)) ⟨own_ne hat ?_ ?_⟩ (fun hne => ?_); (focus (first | omega | (simp; done) | (simp; omega))); (focus (first | omega | (simp; done) | (simp; omega))))); (try (refine have_then (p := Hd (w6.heap[w5.heap.size + 1]? = some (.cells #[.int .u8 0, .int .i64 0, .string ⟨#[]⟩, .slice none 0 0] 24))) ⟨(hgr.block _ ?_ ?_).trans ?_⟩ (fun hp => ?_); (focus (first | omega | (simp; done) | (simp; omega))); (focus (simp [Value.ownBlock]; done)); (focus ((repeat first | ((with_reducible refine blk_top ?_); (first | rfl | (simp; done))) | (with_reducible refine blk_drew ?_) | (with_reducible refine blk_sub ?_)); done)); refine have_then (p := Hd (some (w5.heap.size + 1) ≠ (Value.slice A2 t.kids.length c2).ownBlock)) ⟨own_ne hat ?_ ?_⟩ (fun hne => ?_); (focus (first | omega | (simp; done) | (simp; omega))); (focus (first | omega | (simp; done) | (simp; omega))))); have HAT := Hd.mk hat; clear hrow hgr hat))
          all_goals (go_wp2_with fail; go_meet)
          all_goals have HRow : w8.ownsRow w5.heap.size 24 4 (.slice A3 (t.kids.length + r.kids.length) c3) (t.kids.length + r.kids.length) (valsAll ks (hs1 ++ hs2)) := by rw [HKS.out, valsAll_append _ _ HQ1.out.len]; exact HR3.out
          all_goals have hlb : ks.length * 56 ≤ 140737488355328 := by rw [HKS.out, List.length_append]; exact M1.out.2.2.2
          all_goals have hsz6 := BW6.out.size
          all_goals have hsz7 := BW7.out.size
          · exact BothIn.mk (hs := hs1 ++ hs2) (ext_alloc BW8.out _) (new_block _ _) HRow (by rw [HKS.out]; simp) (HKS.out ▸ HQ1.out.append HS1.out) hlb (fun g hg => (Go.MapKept.heap_alloc _ _).2 g (row_lt HRow hg))
          all_goals exact BothIn.mk (hs := hs1 ++ hs2) (res_below BW8.out (by omega) _ _ _ _) (set4_blk hp8.out _ _ _ _) HRow (by rw [HKS.out]; simp) (HKS.out ▸ HQ1.out.append HS1.out) hlb (fun g hg => res_other (fun e => hne8.out (by rw [← e]; exact hg.symm)))
        case rest =>
          obtain ⟨P, A2, c2, rfl, hb6, hp6, hi6⟩ := hcut
          have B6 := Hd.mk (B5.out.next hb6)
          have X6 := Hd.mk hp6
          have HI6 := Hd.mk hi6
          clear hb6 hi6
          obtain ⟨p0, p1, p2, p3⟩ := four_cells hp6
          clear hp6
          go_wp2_with fail
          refine (K2.out A2 c2 _ _ (HW.out.below B6.out.below) HI6.out).mono ?_
          rintro e w7 ⟨rfl, hb7⟩
          have B7 := Hd.mk (B6.out.next hb7)
          have X7 := Hd.mk (stands X6.out hb7)
          have HI7 := Hd.mk (HI6.out.below hb7)
          obtain ⟨p0, p1, p2, p3⟩ := four_cells X7.out
          clear hb7
          go_wp2_with fail
          refine (K3.out A2 c2 _ _ (HW.out.below B7.out.below) HI7.out).mono ?_
          rintro e w8 ⟨A8, c8, m8, s8, rfl, hb8⟩
          have B8 := Hd.mk (B7.out.next hb8)
          clear hb8
          go_wp2_with fail
          go_ret
          exact ⟨rfl, ext_alloc B8.out.below _⟩
end Go.Proofs.YtgjanglonccclaaDoor
