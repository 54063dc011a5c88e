/- The law SimplifyInserts: its walk. -/
import Derived.Test.YtgjanglonccclaaDoorAwake
import Derived.Test.YtgjanglonccclaaDoorRedP
import Derived.Test.YtgjanglonccclaaDoorRowK
namespace Go.Proofs.YtgjanglonccclaaDoor
open Go.RowKit
set_option linter.unusedVariables false
set_option linter.unusedSimpArgs false

theorem ins_pack {t s : Node} (h : t.isBlock = true) (hs : s.isStmt = true) (h56 : s.kind ≠ 56) (k : Nat) : ∃ (r : Node) (ks : List Node) (p q : Node), ks = t.kids.take k ++ [s, r] ++ t.kids.drop k ∧
    (∀ A c W ok, Good W → s.In W ok A c → Calls Tryd.prog 16 #[.agg #[.int .u8 s.kind, .int .i64 s.num, .string s.name, .slice A s.kids.length c]] W (InvRet W r)) ∧
    (∀ A c W ok, Good W → (⟨57, 0, ⟨#[]⟩, ks⟩ : Node).In W ok A c → Calls Tryd.prog 15 #[.agg #[.int .u8 57, .int .i64 0, .string ⟨#[]⟩, .slice A ks.length c]] W fun e w' => e = .returned (.bool true) ∧ Below W.heap.size W w') ∧
    (∀ A c W ok, Good W → (⟨57, 0, ⟨#[]⟩, ks⟩ : Node).In W ok A c → Calls Tryd.prog 17 #[.agg #[.int .u8 57, .int .i64 0, .string ⟨#[]⟩, .slice A ks.length c]] W (Fresh W p)) ∧
    (∀ A c W ok, Good W → t.In W ok A c → Calls Tryd.prog 17 #[.agg #[.int .u8 t.kind, .int .i64 t.num, .string t.name, .slice A t.kids.length c]] W (Fresh W q)) ∧
    (∀ A c B d W ok ok', p.In W ok A c → q.In W ok' B d → Calls Tryd.prog 18 #[.agg #[.int .u8 p.kind, .int .i64 p.num, .string p.name, .slice A p.kids.length c], .agg #[.int .u8 q.kind, .int .i64 q.num, .string q.name, .slice B q.kids.length d]] W fun e w' => e = .returned (.bool true) ∧ Below W.heap.size W w') := by
  have hk := isBlock_kids h
  have ek : t.kids.take k ++ [s, s.inv] ++ t.kids.drop k = t.kids.take k ++ s :: s.inv :: t.kids.drop k := by simp
  have hb : (⟨57, 0, ⟨#[]⟩, t.kids.take k ++ [s, s.inv] ++ t.kids.drop k⟩ : Node).isBlock = true := by
    rw [Node.isBlock_eq]
    simp only [Bool.and_eq_true, List.all_eq_true, List.mem_append]
    refine ⟨by decide, by decide, by decide +kernel, fun x hx => ?_⟩
    rcases hx with (hx | hx) | hx
    · exact hk x (List.mem_of_mem_take hx)
    · rcases List.mem_cons.1 hx with rfl | hx
      · exact hs
      · simp at hx; subst hx; exact inv_isStmt hs
    · exact hk x (List.mem_of_mem_drop hx)
  refine ⟨s.inv, _, (⟨57, 0, ⟨#[]⟩, t.kids.take k ++ [s, s.inv] ++ t.kids.drop k⟩ : Node).simp, t.simp, rfl, ?_, ?_, ?_, ?_, ?_⟩
  · intro A c W ok hw ht; exact invStmt_any s (.inl hs) A c W ok hw ht
  · intro A c W ok hw ht
    have := isBlock_any _ A c W ok hw ht
    rw [hb] at this; exact this
  · intro A c W ok hw ht
    have := Block_any _ A c W ok hw ht
    rw [blockB_eq, if_pos hb] at this; exact this
  · intro A c W ok hw ht
    have := Block_any t A c W ok hw ht
    rw [blockB_eq, if_pos h] at this; exact this
  · intro A c B d W ok ok' h1 h2
    have e : (⟨57, 0, ⟨#[]⟩, t.kids.take k ++ [s, s.inv] ++ t.kids.drop k⟩ : Node).simp.eqB t.simp = true := by rw [ek]; exact inserts_plain hs h56 k 57 0 ⟨#[]⟩
    have := refEqual_any (⟨57, 0, ⟨#[]⟩, t.kids.take k ++ [s, s.inv] ++ t.kids.drop k⟩ : Node).simp t.simp A B c d W ok ok' h1 h2
    rw [e] at this
    exact this

set_option maxHeartbeats 40000000 in
set_option maxRecDepth 100000 in
theorem insLaw_any (t s : Node) (x : Int) (hx0 : 0 ≤ x) (hx1 : x ≤ 255) (hlen : t.kids.length ≤ 2097152) (A B : Option Addr) (c d : Nat) (w : World) (ok ok' : Nat → Prop) (hw : Good w) (ht : t.In w ok A c) (hs : s.In w ok' B d) :
    Calls Tryd.prog 6 #[.agg #[.int .u8 t.kind, .int .i64 t.num, .string t.name, .slice A t.kids.length c], .agg #[.int .u8 s.kind, .int .i64 s.num, .string s.name, .slice B s.kids.length d], .int .u8 x] w fun e w' => e = .returned (.bool true) ∧ Below w.heap.size w w' := by
  have B0 := Hd.mk (Boxes2.start w t A c s B d)
  have HT := Hd.mk ht
  have HS := Hd.mk hs
  have HW := Hd.mk hw
  have HL := Hd.mk hlen
  clear ht hs hw hlen
  go_enter Tryd.func6, Tryd.ntmps6
  go_wp2_with fail
  refine (awake_any _ (HW.out.below B0.out.below)).mono ?_
  rintro e w1 ⟨rfl, hb1⟩
  have B1 := Hd.mk (B0.out.next hb1)
  obtain ⟨⟨x0, x1, x2, x3⟩, ⟨y0, y1, y2, y3⟩, hz⟩ := B1.out.facts
  clear hb1
  go_wp2_with fail
  refine (size_any t A c _ _ (HT.out.below B1.out.below)).mono ?_
  rintro e w2 ⟨rfl, hb2⟩
  have B2 := Hd.mk (B1.out.next hb2)
  obtain ⟨⟨x0, x1, x2, x3⟩, ⟨y0, y1, y2, y3⟩, hz⟩ := B2.out.facts
  clear hb2
  go_wp2_with fail
  any_goals (go_ret; exact ⟨rfl, B2.out.below⟩)
  refine (size_any s B d _ _ (HS.out.below B2.out.below)).mono ?_
  rintro e w3 ⟨rfl, hb3⟩
  have B3 := Hd.mk (B2.out.next hb3)
  obtain ⟨⟨x0, x1, x2, x3⟩, ⟨y0, y1, y2, y3⟩, hz⟩ := B3.out.facts
  clear hb3
  go_wp2_with fail
  any_goals (go_ret; exact ⟨rfl, B3.out.below⟩)
  have HI := Hd.mk (fun W (h : Below w.heap.size w W) => isBlock_any t A c W ok (HW.out.below h) (HT.out.below h))
  cases hbt : t.isBlock
  · rw [hbt] at HI
    clear hbt
    refine (HI.out _ B3.out.below).mono ?_
    rintro e w4 ⟨rfl, hb4⟩
    have B4 := Hd.mk (B3.out.next hb4)
    clear hb4
    go_wp2_with fail
    go_ret
    exact ⟨rfl, B4.out.below⟩
  rw [hbt] at HI
  have HBl := Hd.mk hbt
  clear hbt
  refine (HI.out _ B3.out.below).mono ?_
  rintro e w4 ⟨rfl, hb4⟩
  have B4 := Hd.mk (B3.out.next hb4)
  obtain ⟨⟨x0, x1, x2, x3⟩, ⟨y0, y1, y2, y3⟩, hz⟩ := B4.out.facts
  clear hb4
  go_wp2_with fail
  have HJ := Hd.mk (fun W (h : Below w.heap.size w W) => isStmt_any s B d W ok' (HW.out.below h) (HS.out.below h))
  cases hst : s.isStmt
  · rw [hst] at HJ
    clear hst
    refine (HJ.out _ B4.out.below).mono ?_
    rintro e w5 ⟨rfl, hb5⟩
    have B5 := Hd.mk (B4.out.next hb5)
    clear hb5
    go_wp2_with fail
    go_ret
    exact ⟨rfl, B5.out.below⟩
  rw [hst] at HJ
  have HSt := Hd.mk hst
  clear hst
  refine (HJ.out _ B4.out.below).mono ?_
  rintro e w5 ⟨rfl, hb5⟩
  have B5 := Hd.mk (B4.out.next hb5)
  obtain ⟨⟨x0, x1, x2, x3⟩, ⟨y0, y1, y2, y3⟩, hz⟩ := B5.out.facts
  clear hb5
  cases h56 : (s.kind == 56)
  case true =>
    go_wp2_with fail
    go_ret
    exact ⟨rfl, B5.out.below⟩
  case false =>
  have H56 := Hd.mk (show s.kind ≠ 56 by simpa using h56)
  obtain ⟨k, hk⟩ : ∃ k : Nat, x % ((t.kids.length : Int) + 1) = (k : Int) := ⟨(x % ((t.kids.length : Int) + 1)).toNat, by rw [Int.toNat_of_nonneg]; exact Int.emod_nonneg _ (by omega)⟩
  have hk2 : k ≤ t.kids.length := by
    have := Int.emod_lt_of_pos x (show (0 : Int) < (t.kids.length : Int) + 1 by omega)
    omega
  obtain ⟨r, ks, p, q, hks, k1, k2, k3, k4, k5⟩ := ins_pack HBl.out HSt.out H56.out k
  have K1 := Hd.mk k1; have K2 := Hd.mk k2; have K3 := Hd.mk k3; have K4 := Hd.mk k4; have K5 := Hd.mk k5; have HKS := Hd.mk hks
  clear k1 k2 k3 k4 k5 hks
  have hl := HT.out.lenZ
  have hlZ : (t.kids.length : Int) ≤ 2097152 := by have := HL.out; omega
  go_wp2_with fail
  refine (K1.out B d _ ok' (HW.out.below B5.out.below) (HS.out.below B5.out.below)).mono ?_
  rintro e w6 ⟨A1, c1, rfl, hb6, ho6⟩
  have B6 := Hd.mk (B5.out.next hb6)
  have HO6 := Hd.mk (ho6.reads r)
  clear hb6 ho6
  obtain ⟨⟨x0, x1, x2, x3⟩, ⟨y0, y1, y2, y3⟩, hz⟩ := B6.out.facts
  have hz2 : w.heap.size < w6.heap.size := by omega
  go_wp2_with fail
  rw [hk]
  have hb7 := ext_alloc (Below.refl w6.heap.size w6) (.cells #[.int .u8 r.kind, .int .i64 r.num, .string r.name, .slice A1 r.kids.length c1] 24)
  have B7 := Hd.mk (B6.out.next hb7)
  have X7 := Hd.mk (new_block w6 (.cells #[.int .u8 r.kind, .int .i64 r.num, .string r.name, .slice A1 r.kids.length c1] 24))
  have HO7 := Hd.mk (HO6.out.below hb7)
  clear hb7
  generalize hgw : w6.alloc (.cells #[.int .u8 r.kind, .int .i64 r.num, .string r.name, .slice A1 r.kids.length c1] 24) = W at B7 X7 HO7
  generalize w6.heap.size = n1 at X7
  clear hgw
  obtain ⟨hs1, q1, q2, q3⟩ := (HT.out.below B7.out.below).parts (N0 := W.heap.size) (fun _ _ h => h)
  have HP1 := Hd.mk q1
  have hc := HT.out.len
  have HSr : Hd (Src W A t.kids hs1) := ⟨⟨q2, q3⟩⟩
  have T1 := Src.take (HT.out.below B7.out.below) HSr.out k
  have T3 := Src.drop (HT.out.below B7.out.below) HSr.out k
  have hcut1 := run_cut_to A t.kids.length c k (by omega)
  have hcut3 := run_cut_from A t.kids.length c k hk2
  generalize cutTo A 0 c = X1 at T1 hcut1
  generalize cutTo A k c = X3 at T3 hcut3
  have HT1 := Hd.mk T1
  have HT3 := Hd.mk T3
  have HNO1 : Hd (X1 = none → k = 0) := ⟨fun h => by have := HT1.out.none h; rw [List.length_take] at this; omega⟩
  have HNO3 : Hd (X3 = none → t.kids.length - k = 0) := ⟨fun h => by have := HT3.out.none h; rw [List.length_drop] at this; exact this⟩
  have HVL1 : Hd ((valsAll (t.kids.take k) (hs1.take k)).length = k * 4) := ⟨by rw [valsAll_length (HP1.out.take k).len, List.length_take, Nat.min_eq_left hk2]⟩
  have HVL3 : Hd ((valsAll (t.kids.drop k) (hs1.drop k)).length = (t.kids.length - k) * 4) := ⟨by rw [valsAll_length (HP1.out.drop k).len, List.length_drop]⟩
  have H1C : Hd (∀ u ∈ (valsAll (t.kids.take k) (hs1.take k)), u.oneCell' = true) := ⟨vals_one _ _⟩
  have H2C : Hd (∀ u ∈ (valsAll [s, r] [⟨B, d, fun _ => True⟩, ⟨A1, c1, fun _ => True⟩]), u.oneCell' = true) := ⟨vals_one _ _⟩
  have H3C : Hd (∀ u ∈ (valsAll (t.kids.drop k) (hs1.drop k)), u.oneCell' = true) := ⟨vals_one _ _⟩
  have M1 : Hd (k ≤ maxLen ∧ k * 56 ≤ 140737488355328 ∧ k + 2 ≤ maxLen ∧ (k + 2) * 56 ≤ 140737488355328 ∧ k + 2 + (t.kids.length - k) ≤ maxLen ∧ (k + 2 + (t.kids.length - k)) * 56 ≤ 140737488355328) := ⟨by have := HL.out; simp only [maxLen]; omega⟩
  have HP2 : Hd (Parts W W.heap.size [s, r] [⟨B, d, fun _ => True⟩, ⟨A1, c1, fun _ => True⟩]) := ⟨⟨rfl, fun j h1 h2 => by
    rcases (show j = 0 ∨ j = 1 by simp at h1; omega) with rfl | rfl
    · exact Node.In.move (fun _ _ _ => rfl) (fun b _ h => h) _ (HS.out.below B7.out.below)
    · exact Node.In.move (fun _ _ _ => rfl) (fun b _ h => h) _ HO7.out⟩⟩
  have HPK : Hd (Parts W W.heap.size ks (hs1.take k ++ [⟨B, d, fun _ => True⟩, ⟨A1, c1, fun _ => True⟩] ++ hs1.drop k)) := ⟨by rw [HKS.out]; exact ((HP1.out.take k).append HP2.out).append (HP1.out.drop k)⟩
  have HKL : Hd (k + 2 + (t.kids.length - k) = ks.length) := ⟨by rw [HKS.out]; simp; omega⟩
  have HVA : Hd (valsAll ks (hs1.take k ++ [⟨B, d, fun _ => True⟩, ⟨A1, c1, fun _ => True⟩] ++ hs1.drop k) = (valsAll (t.kids.take k) (hs1.take k)) ++ (valsAll [s, r] [⟨B, d, fun _ => True⟩, ⟨A1, c1, fun _ => True⟩]) ++ (valsAll (t.kids.drop k) (hs1.drop k))) := ⟨by
    rw [HKS.out, valsAll_append _ _ (by rw [List.length_append, List.length_append, (HP1.out.take k).len]; rfl), valsAll_append _ _ (HP1.out.take k).len]⟩
  have KS : Hd (∀ W', Below W.heap.size W W' → (fun W' => W'.cell? ⟨w.heap.size, 3, none⟩ = some (.slice A t.kids.length c) ∧ (W'.cell? ⟨w.heap.size + 1, 0, none⟩ = some (.int .u8 s.kind) ∧ W'.cell? ⟨w.heap.size + 1, 1, none⟩ = some (.int .i64 s.num) ∧ W'.cell? ⟨w.heap.size + 1, 2, none⟩ = some (.string s.name) ∧ W'.cell? ⟨w.heap.size + 1, 3, none⟩ = some (.slice B s.kids.length d)) ∧ W'.cell? ⟨n1, 0, none⟩ = some (.int .u8 r.kind) ∧ W'.cell? ⟨n1, 1, none⟩ = some (.int .i64 r.num) ∧ W'.cell? ⟨n1, 2, none⟩ = some (.string r.name) ∧ W'.cell? ⟨n1, 3, none⟩ = some (.slice A1 r.kids.length c1)) W') := ⟨fun W' h => by
    obtain ⟨⟨a0, a1, a2, a3⟩, ⟨b0, b1, b2, b3⟩, _⟩ := (B7.out.next h).facts
    exact ⟨a3, ⟨b0, b1, b2, b3⟩, four_cells (stands X7.out h)⟩⟩
  obtain ⟨x3, ⟨y0, y1, y2, y3⟩, z0, z1, z2, z3⟩ := KS.out _ (Below.refl _ _)
  clear T1 T3 q1 q2 q3 hc hz hz2 hl hlZ hk2
  obtain ⟨i0, hi, hz0, hz1, hz2⟩ := info_parts infoNode
  generalize (decide (100 < t.sizeW) || decide (60 < s.sizeW)) = bb1
  generalize decide (100 < t.sizeW) = bb2
  generalize decide (60 < s.sizeW) = bb3
  generalize (Value.tuple #[.agg #[.int .u8 r.kind, .int .i64 r.num, .string r.name, .slice A1 r.kids.length c1], .int .i64 0]) = bv1
  generalize (.agg #[.int .u8 r.kind, .int .i64 r.num, .string r.name, .slice A1 r.kids.length c1] : Value) = bv2
  generalize (.agg #[.int .u8 t.kind, .int .i64 t.num, .string t.name, .slice A t.kids.length c] : Value) = bv3
  generalize (.agg #[.int .u8 s.kind, .int .i64 s.num, .string s.name, .slice B s.kids.length d] : Value) = bv4
  generalize t.sizeW = bz1
  generalize s.sizeW = bz2

  go_cut [10] (fun v10 wx => BothIn W ks v10 wx)
  case first =>
    go_region_held3 (fun W' => W'.cell? ⟨w.heap.size, 3, none⟩ = some (.slice A t.kids.length c) ∧ (W'.cell? ⟨w.heap.size + 1, 0, none⟩ = some (.int .u8 s.kind) ∧ W'.cell? ⟨w.heap.size + 1, 1, none⟩ = some (.int .i64 s.num) ∧ W'.cell? ⟨w.heap.size + 1, 2, none⟩ = some (.string s.name) ∧ W'.cell? ⟨w.heap.size + 1, 3, none⟩ = some (.slice B s.kids.length d)) ∧ W'.cell? ⟨n1, 0, none⟩ = some (.int .u8 r.kind) ∧ W'.cell? ⟨n1, 1, none⟩ = some (.int .i64 r.num) ∧ W'.cell? ⟨n1, 2, none⟩ = some (.string r.name) ∧ W'.cell? ⟨n1, 3, none⟩ = some (.slice A1 r.kids.length c1)) (((with_reducible refine KS.out _ ?_); (repeat first | (with_reducible exact Below.refl _ _) | (with_reducible exact BW14.out) | (with_reducible exact BW13.out) | (with_reducible exact BW12.out) | (with_reducible exact BW11.out) | (with_reducible refine Below.drew ?_) | (with_reducible refine ext_alloc ?_ _) | (with_reducible refine res_below ?_ (by omega) _ _ _ _)); done)) (first
      | (have hh := HR13.out; have hz13 := BW13.out.size; go_at_call 19; refine (lawBlock_n _ _ _ _).mono ?_; rintro e w14 ⟨rfl, hb8⟩; refine have_then (p := Below w13.heap.size w13 w14) ?_ (fun hb9 => ?_); (focus (first | (with_reducible exact hb8) | exact ext_trans (ext_alloc (Below.refl _ _) _) hb8)); have BW14 := Hd.mk (ext_trans BW13.out hb9); have HR14 := Hd.mk (row_of_block HR13.out (fun g hg => hb9.block g (row_lt HR13.out hg))); (try (have hp14 := Hd.mk (stands hp13.out hb9); have hne14 := hne13)); (try (have hp14 := Hd.mk (stands (new_block w13 (.cells #[.int .u8 0, .int .i64 0, .string ⟨#[]⟩, .slice none 0 0] 24)) hb8); have hne14 := Hd.mk (own_lt HR13.out))); (try (have hp9 := hp14.out; have f0 := blk_free hp9 0; have f1 := blk_free hp9 1; have f2 := blk_free hp9 2; have f3 := blk_free hp9 3; have hq9 := four_cells hp9; obtain ⟨p0, p1, p2, p3⟩ := hq9; clear hp9)))
      | (have hh := HR12.out; have hz12 := BW12.out.size; refine step_append_to (by rfl) _ _ _ (by rfl) W.heap.size 24 i0 _ 4 56 Tryd.underlying22 hi hz0 hz1 hz2 rfl (by omega) (.slice A3 (k + 2) c3) (k + 2) ((valsAll (t.kids.take k) (hs1.take k)) ++ (valsAll [s, r] [⟨B, d, fun _ => True⟩, ⟨A1, c1, fun _ => True⟩])) X3 (t.kids.length - k) (c - k) (valsAll (t.kids.drop k) (hs1.drop k)) (k + 2 + (t.kids.length - k)) ((valsAll (t.kids.take k) (hs1.take k)) ++ (valsAll [s, r] [⟨B, d, fun _ => True⟩, ⟨A1, c1, fun _ => True⟩]) ++ (valsAll (t.kids.drop k) (hs1.drop k))) rfl rfl (by rfl) ?_ (by rfl) HVL3.out HNO3.out (HT3.out.below ?_).at_ H3C.out M1.out.2.2.2.2.1 M1.out.2.2.2.2.2 ?_ ?_; (focus (first | (with_reducible exact HR12.out) | exact HR12.out.alloc _)); (focus ((repeat first | (with_reducible exact Below.refl _ _) | (with_reducible exact BW14.out) | (with_reducible exact BW13.out) | (with_reducible exact BW12.out) | (with_reducible exact BW11.out) | (with_reducible refine Below.drew ?_) | (with_reducible refine ext_alloc ?_ _)); done)); (focus (first | omega | (simp; omega))); intro A4 c4 w13 hrow hgr hat; refine have_then (p := Hd (Below W.heap.size W w13)) ⟨below_grown ?_ hgr (fun g hg => ownsRow_ge hh g hg) ?_⟩ (fun BW13 => ?_); (focus ((repeat first | (with_reducible exact Below.refl _ _) | (with_reducible exact BW14.out) | (with_reducible exact BW13.out) | (with_reducible exact BW12.out) | (with_reducible exact BW11.out) | (with_reducible refine Below.drew ?_) | (with_reducible refine ext_alloc ?_ _)); done)); (focus (first | omega | (simp; omega))); have HR13 := Hd.mk hrow; (try (have hz := hp12.out; have hp13 := Hd.mk ((hgr.block _ (stands_lt hz) hne12.out).trans hz); have hne13 := Hd.mk (own_ne2 hat hne12.out (stands_lt hz)))); (try (have hz := new_block w12 (.cells #[.int .u8 0, .int .i64 0, .string ⟨#[]⟩, .slice none 0 0] 24); have hp13 := Hd.mk ((hgr.block _ (stands_lt hz) (own_ge HR12.out (Nat.le_refl _))).trans hz); have hne13 := Hd.mk (own_ne2 hat (own_ge HR12.out (Nat.le_refl _)) (stands_lt hz)))); clear hrow hgr hat)
      | (have hh := HR11.out; have hz11 := BW11.out.size; refine step_append_to (by rfl) _ _ _ (by rfl) W.heap.size 24 i0 _ 4 56 Tryd.underlying22 hi hz0 hz1 hz2 rfl (by omega) (.slice A2 k c2) k (valsAll (t.kids.take k) (hs1.take k)) (some ⟨_, 0, none⟩) 2 2 (valsAll [s, r] [⟨B, d, fun _ => True⟩, ⟨A1, c1, fun _ => True⟩]) (k + 2) ((valsAll (t.kids.take k) (hs1.take k)) ++ (valsAll [s, r] [⟨B, d, fun _ => True⟩, ⟨A1, c1, fun _ => True⟩])) rfl rfl (by rfl) ?_ (by rfl) rfl some_none (Src.of_block (cs := #[.int .u8 s.kind, .int .i64 s.num, .string s.name, .slice B s.kids.length d, .int .u8 r.kind, .int .i64 r.num, .string r.name, .slice A1 r.kids.length c1]) (ty := 24) (ls := [s, r]) (gs := [⟨B, d, fun _ => True⟩, ⟨A1, c1, fun _ => True⟩]) ?_ rfl).at_ H2C.out M1.out.2.2.1 M1.out.2.2.2.1 ?_ ?_; (focus (first | (with_reducible exact HR11.out) | exact HR11.out.alloc _ | exact (HR11.out.alloc _).alloc _)); (focus ((repeat first | (with_reducible exact hd11.out) | ((with_reducible refine blk_top ?_); (first | rfl | (simp; done))) | (with_reducible refine blk_drew ?_) | (with_reducible refine blk_sub ?_)); done)); (focus (first | omega | (simp; omega))); intro A3 c3 w12 hrow hgr hat; refine have_then (p := Hd (Below W.heap.size W w12)) ⟨below_grown ?_ hgr (fun g hg => ownsRow_ge hh g hg) ?_⟩ (fun BW12 => ?_); (focus ((repeat first | (with_reducible exact Below.refl _ _) | (with_reducible exact BW14.out) | (with_reducible exact BW13.out) | (with_reducible exact BW12.out) | (with_reducible exact BW11.out) | (with_reducible refine Below.drew ?_) | (with_reducible refine ext_alloc ?_ _)); done)); (focus (first | omega | (simp; omega))); have HR12 := Hd.mk hrow; (try (have hz := hp11.out; have hp12 := Hd.mk ((hgr.block _ (stands_lt hz) hne11.out).trans hz); have hne12 := Hd.mk (own_ne2 hat hne11.out (stands_lt hz)))); (try (have hz := blk_sub (o := (.cells #[.int .u8 s.kind, .int .i64 s.num, .string s.name, .slice B s.kids.length d, .int .u8 r.kind, .int .i64 r.num, .string r.name, .slice A1 r.kids.length c1] 24)) hp11.out; have hp12 := Hd.mk ((hgr.block _ (stands_lt hz) hne11.out).trans hz); have hne12 := Hd.mk (own_ne2 hat hne11.out (stands_lt hz)))); (try (have hz := new_block w11 (.cells #[.int .u8 0, .int .i64 0, .string ⟨#[]⟩, .slice none 0 0] 24); have hp12 := Hd.mk ((hgr.block _ (stands_lt hz) (own_ge HR11.out (Nat.le_refl _))).trans hz); have hne12 := Hd.mk (own_ne2 hat (own_ge HR11.out (Nat.le_refl _)) (stands_lt hz)))); (try (have hz := blk_sub (o := (.cells #[.int .u8 s.kind, .int .i64 s.num, .string s.name, .slice B s.kids.length d, .int .u8 r.kind, .int .i64 r.num, .string r.name, .slice A1 r.kids.length c1] 24)) (new_block w11 (.cells #[.int .u8 0, .int .i64 0, .string ⟨#[]⟩, .slice none 0 0] 24)); have hp12 := Hd.mk ((hgr.block _ (stands_lt hz) (own_ge HR11.out (Nat.le_refl _))).trans hz); have hne12 := Hd.mk (own_ne2 hat (own_ge HR11.out (Nat.le_refl _)) (stands_lt hz)))); (try (have hz := blk_top (w := w11.alloc (.cells #[.int .u8 s.kind, .int .i64 s.num, .string s.name, .slice B s.kids.length d, .int .u8 r.kind, .int .i64 r.num, .string r.name, .slice A1 r.kids.length c1] 24)) (o := (.cells #[.int .u8 0, .int .i64 0, .string ⟨#[]⟩, .slice none 0 0] 24)) (p := w11.heap.size + 1) (World.size_alloc _ _); have hp12 := Hd.mk ((hgr.block _ (stands_lt hz) (own_ge HR11.out (Nat.le_succ _))).trans hz); have hne12 := Hd.mk (own_ne2 hat (own_ge HR11.out (Nat.le_succ _)) (stands_lt hz)))); clear hrow hgr hat)
      | (refine step_append_to (by rfl) _ _ _ (by rfl) W.heap.size 24 i0 _ 4 56 Tryd.underlying22 hi hz0 hz1 hz2 rfl (by omega) (.slice (some ⟨W.heap.size, 0, none⟩) 0 0) 0 [] X1 k c (valsAll (t.kids.take k) (hs1.take k)) k (valsAll (t.kids.take k) (hs1.take k)) (Nat.zero_add _) rfl (by rfl) (empty_at ?_ ?_) (by rfl) HVL1.out HNO1.out (HT1.out.below ?_).at_ H1C.out M1.out.1 M1.out.2.1 ?_ ?_; (focus (first | omega | (simp; done) | (simp; omega))); (focus ((repeat first | (with_reducible exact hd11.out) | ((with_reducible refine blk_top ?_); (first | rfl | (simp; done))) | (with_reducible refine blk_drew ?_) | (with_reducible refine blk_sub ?_)); done)); (focus ((repeat first | (with_reducible exact Below.refl _ _) | (with_reducible exact BW14.out) | (with_reducible exact BW13.out) | (with_reducible exact BW12.out) | (with_reducible exact BW11.out) | (with_reducible refine Below.drew ?_) | (with_reducible refine ext_alloc ?_ _)); done)); (focus (first | omega | (simp; done) | (simp; omega))); intro A2 c2 w11 hrow hgr hat; refine have_then (p := Hd (Below W.heap.size W w11)) ⟨below_grown ?_ hgr ?_ ?_⟩ (fun BW11 => ?_); (focus ((repeat first | (with_reducible exact Below.refl _ _) | (with_reducible exact BW14.out) | (with_reducible exact BW13.out) | (with_reducible exact BW12.out) | (with_reducible exact BW11.out) | (with_reducible refine Below.drew ?_) | (with_reducible refine ext_alloc ?_ _)); done)); (focus (first | (simp [Value.ownBlock]; done) | (intro g hg; have h2 := Option.some.inj hg; dsimp only at h2; omega))); (focus (first | omega | (simp; done) | (simp; omega))); (try clear x3 y0 y1 y2 y3 z0 z1 z2 z3); have HR11 := Hd.mk hrow; (try (refine grown_keep (P := W.heap.size) (o := (.cells #[.int .u8 0, .int .i64 0, .string ⟨#[]⟩, .slice none 0 0] 24)) hgr ?_ ?_ (fun hp11 => ?_); (focus ((repeat first | (with_reducible exact hd11.out) | ((with_reducible refine blk_top ?_); (first | rfl | (simp; done))) | (with_reducible refine blk_drew ?_) | (with_reducible refine blk_sub ?_)); done)); (focus (first | (simp [Value.ownBlock]; done) | (intro h; have h2 := Option.some.inj h; dsimp only at h2; omega))); refine have_then (p := Hd (some (W.heap.size) ≠ (Value.slice A2 k c2).ownBlock)) ⟨own_ne hat ?_ ?_⟩ (fun hne11 => ?_); (focus (first | omega | (simp; done) | (simp; omega))); (focus (first | omega | (simp; done) | (simp; omega))))); (try (refine grown_keep (P := W.heap.size) (o := (.cells #[.int .u8 s.kind, .int .i64 s.num, .string s.name, .slice B s.kids.length d, .int .u8 r.kind, .int .i64 r.num, .string r.name, .slice A1 r.kids.length c1] 24)) hgr ?_ ?_ (fun hd11 => ?_); (focus ((repeat first | (with_reducible exact hd11.out) | ((with_reducible refine blk_top ?_); (first | rfl | (simp; done))) | (with_reducible refine blk_drew ?_) | (with_reducible refine blk_sub ?_)); done)); (focus (first | (simp [Value.ownBlock]; done) | (intro h; have h2 := Option.some.inj h; dsimp only at h2; omega))))); (try (refine grown_keep (P := W.heap.size + 1) (o := (.cells #[.int .u8 0, .int .i64 0, .string ⟨#[]⟩, .slice none 0 0] 24)) hgr ?_ ?_ (fun hp11 => ?_); (focus ((repeat first | (with_reducible exact hd11.out) | ((with_reducible refine blk_top ?_); (first | rfl | (simp; done))) | (with_reducible refine blk_drew ?_) | (with_reducible refine blk_sub ?_)); done)); (focus (first | (simp [Value.ownBlock]; done) | (intro h; have h2 := Option.some.inj h; dsimp only at h2; omega))); refine have_then (p := Hd (some (W.heap.size + 1) ≠ (Value.slice A2 k c2).ownBlock)) ⟨own_ne hat ?_ ?_⟩ (fun hne11 => ?_); (focus (first | omega | (simp; done) | (simp; omega))); (focus (first | omega | (simp; done) | (simp; omega))))); (try (refine grown_keep (P := W.heap.size + 1) (o := (.cells #[.int .u8 s.kind, .int .i64 s.num, .string s.name, .slice B s.kids.length d, .int .u8 r.kind, .int .i64 r.num, .string r.name, .slice A1 r.kids.length c1] 24)) hgr ?_ ?_ (fun hd11 => ?_); (focus ((repeat first | (with_reducible exact hd11.out) | ((with_reducible refine blk_top ?_); (first | rfl | (simp; done))) | (with_reducible refine blk_drew ?_) | (with_reducible refine blk_sub ?_)); done)); (focus (first | (simp [Value.ownBlock]; done) | (intro h; have h2 := Option.some.inj h; dsimp only at h2; omega))))); (try (refine grown_keep (P := W.heap.size + 1 + 1) (o := (.cells #[.int .u8 0, .int .i64 0, .string ⟨#[]⟩, .slice none 0 0] 24)) hgr ?_ ?_ (fun hp11 => ?_); (focus ((repeat first | (with_reducible exact hd11.out) | ((with_reducible refine blk_top ?_); (first | rfl | (simp; done))) | (with_reducible refine blk_drew ?_) | (with_reducible refine blk_sub ?_)); done)); (focus (first | (simp [Value.ownBlock]; done) | (intro h; have h2 := Option.some.inj h; dsimp only at h2; omega))); refine have_then (p := Hd (some (W.heap.size + 1 + 1) ≠ (Value.slice A2 k c2).ownBlock)) ⟨own_ne hat ?_ ?_⟩ (fun hne11 => ?_); (focus (first | omega | (simp; done) | (simp; omega))); (focus (first | omega | (simp; done) | (simp; omega))))); (try (refine grown_keep (P := W.heap.size + 1 + 1) (o := (.cells #[.int .u8 s.kind, .int .i64 s.num, .string s.name, .slice B s.kids.length d, .int .u8 r.kind, .int .i64 r.num, .string r.name, .slice A1 r.kids.length c1] 24)) hgr ?_ ?_ (fun hd11 => ?_); (focus ((repeat first | (with_reducible exact hd11.out) | ((with_reducible refine blk_top ?_); (first | rfl | (simp; done))) | (with_reducible refine blk_drew ?_) | (with_reducible refine blk_sub ?_)); done)); (focus (first | (simp [Value.ownBlock]; done) | (intro h; have h2 := Option.some.inj h; dsimp only at h2; omega))))); clear hrow hgr hat)
      | (refine step_append_to (by rfl) _ _ _ (by rfl) W.heap.size 24 i0 _ 4 56 Tryd.underlying22 hi hz0 hz1 hz2 rfl (by omega) (.slice (some ⟨W.heap.size + 1, 0, none⟩) 0 0) 0 [] X1 k c (valsAll (t.kids.take k) (hs1.take k)) k (valsAll (t.kids.take k) (hs1.take k)) (Nat.zero_add _) rfl (by rfl) (empty_at ?_ ?_) (by rfl) HVL1.out HNO1.out (HT1.out.below ?_).at_ H1C.out M1.out.1 M1.out.2.1 ?_ ?_; (focus (first | omega | (simp; done) | (simp; omega))); (focus ((repeat first | (with_reducible exact hd11.out) | ((with_reducible refine blk_top ?_); (first | rfl | (simp; done))) | (with_reducible refine blk_drew ?_) | (with_reducible refine blk_sub ?_)); done)); (focus ((repeat first | (with_reducible exact Below.refl _ _) | (with_reducible exact BW14.out) | (with_reducible exact BW13.out) | (with_reducible exact BW12.out) | (with_reducible exact BW11.out) | (with_reducible refine Below.drew ?_) | (with_reducible refine ext_alloc ?_ _)); done)); (focus (first | omega | (simp; done) | (simp; omega))); intro A2 c2 w11 hrow hgr hat; refine have_then (p := Hd (Below W.heap.size W w11)) ⟨below_grown ?_ hgr ?_ ?_⟩ (fun BW11 => ?_); (focus ((repeat first | (with_reducible exact Below.refl _ _) | (with_reducible exact BW14.out) | (with_reducible exact BW13.out) | (with_reducible exact BW12.out) | (with_reducible exact BW11.out) | (with_reducible refine Below.drew ?_) | (with_reducible refine ext_alloc ?_ _)); done)); (focus (first | (simp [Value.ownBlock]; done) | (intro g hg; have h2 := Option.some.inj hg; dsimp only at h2; omega))); (focus (first | omega | (simp; done) | (simp; omega))); (try clear x3 y0 y1 y2 y3 z0 z1 z2 z3); have HR11 := Hd.mk hrow; (try (refine grown_keep (P := W.heap.size) (o := (.cells #[.int .u8 0, .int .i64 0, .string ⟨#[]⟩, .slice none 0 0] 24)) hgr ?_ ?_ (fun hp11 => ?_); (focus ((repeat first | (with_reducible exact hd11.out) | ((with_reducible refine blk_top ?_); (first | rfl | (simp; done))) | (with_reducible refine blk_drew ?_) | (with_reducible refine blk_sub ?_)); done)); (focus (first | (simp [Value.ownBlock]; done) | (intro h; have h2 := Option.some.inj h; dsimp only at h2; omega))); refine have_then (p := Hd (some (W.heap.size) ≠ (Value.slice A2 k c2).ownBlock)) ⟨own_ne hat ?_ ?_⟩ (fun hne11 => ?_); (focus (first | omega | (simp; done) | (simp; omega))); (focus (first | omega | (simp; done) | (simp; omega))))); (try (refine grown_keep (P := W.heap.size) (o := (.cells #[.int .u8 s.kind, .int .i64 s.num, .string s.name, .slice B s.kids.length d, .int .u8 r.kind, .int .i64 r.num, .string r.name, .slice A1 r.kids.length c1] 24)) hgr ?_ ?_ (fun hd11 => ?_); (focus ((repeat first | (with_reducible exact hd11.out) | ((with_reducible refine blk_top ?_); (first | rfl | (simp; done))) | (with_reducible refine blk_drew ?_) | (with_reducible refine blk_sub ?_)); done)); (focus (first | (simp [Value.ownBlock]; done) | (intro h; have h2 := Option.some.inj h; dsimp only at h2; omega))))); (try (refine grown_keep (P := W.heap.size + 1) (o := (.cells #[.int .u8 0, .int .i64 0, .string ⟨#[]⟩, .slice none 0 0] 24)) hgr ?_ ?_ (fun hp11 => ?_); (focus ((repeat first | (with_reducible exact hd11.out) | ((with_reducible refine blk_top ?_); (first | rfl | (simp; done))) | (with_reducible refine blk_drew ?_) | (with_reducible refine blk_sub ?_)); done)); (focus (first | (simp [Value.ownBlock]; done) | (intro h; have h2 := Option.some.inj h; dsimp only at h2; omega))); refine have_then (p := Hd (some (W.heap.size + 1) ≠ (Value.slice A2 k c2).ownBlock)) ⟨own_ne hat ?_ ?_⟩ (fun hne11 => ?_); (focus (first | omega | (simp; done) | (simp; omega))); (focus (first | omega | (simp; done) | (simp; omega))))); (try (refine grown_keep (P := W.heap.size + 1) (o := (.cells #[.int .u8 s.kind, .int .i64 s.num, .string s.name, .slice B s.kids.length d, .int .u8 r.kind, .int .i64 r.num, .string r.name, .slice A1 r.kids.length c1] 24)) hgr ?_ ?_ (fun hd11 => ?_); (focus ((repeat first | (with_reducible exact hd11.out) | ((with_reducible refine blk_top ?_); (first | rfl | (simp; done))) | (with_reducible refine blk_drew ?_) | (with_reducible refine blk_sub ?_)); done)); (focus (first | (simp [Value.ownBlock]; done) | (intro h; have h2 := Option.some.inj h; dsimp only at h2; omega))))); (try (refine grown_keep (P := W.heap.size + 1 + 1) (o := (.cells #[.int .u8 0, .int .i64 0, .string ⟨#[]⟩, .slice none 0 0] 24)) hgr ?_ ?_ (fun hp11 => ?_); (focus ((repeat first | (with_reducible exact hd11.out) | ((with_reducible refine blk_top ?_); (first | rfl | (simp; done))) | (with_reducible refine blk_drew ?_) | (with_reducible refine blk_sub ?_)); done)); (focus (first | (simp [Value.ownBlock]; done) | (intro h; have h2 := Option.some.inj h; dsimp only at h2; omega))); refine have_then (p := Hd (some (W.heap.size + 1 + 1) ≠ (Value.slice A2 k c2).ownBlock)) ⟨own_ne hat ?_ ?_⟩ (fun hne11 => ?_); (focus (first | omega | (simp; done) | (simp; omega))); (focus (first | omega | (simp; done) | (simp; omega))))); (try (refine grown_keep (P := W.heap.size + 1 + 1) (o := (.cells #[.int .u8 s.kind, .int .i64 s.num, .string s.name, .slice B s.kids.length d, .int .u8 r.kind, .int .i64 r.num, .string r.name, .slice A1 r.kids.length c1] 24)) hgr ?_ ?_ (fun hd11 => ?_); (focus ((repeat first | (with_reducible exact hd11.out) | ((with_reducible refine blk_top ?_); (first | rfl | (simp; done))) | (with_reducible refine blk_drew ?_) | (with_reducible refine blk_sub ?_)); done)); (focus (first | (simp [Value.ownBlock]; done) | (intro h; have h2 := Option.some.inj h; dsimp only at h2; omega))))); clear hrow hgr hat)
      | (refine step_append_to (by rfl) _ _ _ (by rfl) W.heap.size 24 i0 _ 4 56 Tryd.underlying22 hi hz0 hz1 hz2 rfl (by omega) (.slice (some ⟨W.heap.size + 1 + 1, 0, none⟩) 0 0) 0 [] X1 k c (valsAll (t.kids.take k) (hs1.take k)) k (valsAll (t.kids.take k) (hs1.take k)) (Nat.zero_add _) rfl (by rfl) (empty_at ?_ ?_) (by rfl) HVL1.out HNO1.out (HT1.out.below ?_).at_ H1C.out M1.out.1 M1.out.2.1 ?_ ?_; (focus (first | omega | (simp; done) | (simp; omega))); (focus ((repeat first | (with_reducible exact hd11.out) | ((with_reducible refine blk_top ?_); (first | rfl | (simp; done))) | (with_reducible refine blk_drew ?_) | (with_reducible refine blk_sub ?_)); done)); (focus ((repeat first | (with_reducible exact Below.refl _ _) | (with_reducible exact BW14.out) | (with_reducible exact BW13.out) | (with_reducible exact BW12.out) | (with_reducible exact BW11.out) | (with_reducible refine Below.drew ?_) | (with_reducible refine ext_alloc ?_ _)); done)); (focus (first | omega | (simp; done) | (simp; omega))); intro A2 c2 w11 hrow hgr hat; refine have_then (p := Hd (Below W.heap.size W w11)) ⟨below_grown ?_ hgr ?_ ?_⟩ (fun BW11 => ?_); (focus ((repeat first | (with_reducible exact Below.refl _ _) | (with_reducible exact BW14.out) | (with_reducible exact BW13.out) | (with_reducible exact BW12.out) | (with_reducible exact BW11.out) | (with_reducible refine Below.drew ?_) | (with_reducible refine ext_alloc ?_ _)); done)); (focus (first | (simp [Value.ownBlock]; done) | (intro g hg; have h2 := Option.some.inj hg; dsimp only at h2; omega))); (focus (first | omega | (simp; done) | (simp; omega))); (try clear x3 y0 y1 y2 y3 z0 z1 z2 z3); have HR11 := Hd.mk hrow; (try (refine grown_keep (P := W.heap.size) (o := (.cells #[.int .u8 0, .int .i64 0, .string ⟨#[]⟩, .slice none 0 0] 24)) hgr ?_ ?_ (fun hp11 => ?_); (focus ((repeat first | (with_reducible exact hd11.out) | ((with_reducible refine blk_top ?_); (first | rfl | (simp; done))) | (with_reducible refine blk_drew ?_) | (with_reducible refine blk_sub ?_)); done)); (focus (first | (simp [Value.ownBlock]; done) | (intro h; have h2 := Option.some.inj h; dsimp only at h2; omega))); refine have_then (p := Hd (some (W.heap.size) ≠ (Value.slice A2 k c2).ownBlock)) ⟨own_ne hat ?_ ?_⟩ (fun hne11 => ?_); (focus (first | omega | (simp; done) | (simp; omega))); (focus (first | omega | (simp; done) | (simp; omega))))); (try (refine grown_keep (P := W.heap.size) (o := (.cells #[.int .u8 s.kind, .int .i64 s.num, .string s.name, .slice B s.kids.length d, .int .u8 r.kind, .int .i64 r.num, .string r.name, .slice A1 r.kids.length c1] 24)) hgr ?_ ?_ (fun hd11 => ?_); (focus ((repeat first | (with_reducible exact hd11.out) | ((with_reducible refine blk_top ?_); (first | rfl | (simp; done))) | (with_reducible refine blk_drew ?_) | (with_reducible refine blk_sub ?_)); done)); (focus (first | (simp [Value.ownBlock]; done) | (intro h; have h2 := Option.some.inj h; dsimp only at h2; omega))))); (try (refine grown_keep (P := W.heap.size + 1) (o := (.cells #[.int .u8 0, .int .i64 0, .string ⟨#[]⟩, .slice none 0 0] 24)) hgr ?_ ?_ (fun hp11 => ?_); (focus ((repeat first | (with_reducible exact hd11.out) | ((with_reducible refine blk_top ?_); (first | rfl | (simp; done))) | (with_reducible refine blk_drew ?_) | (with_reducible refine blk_sub ?_)); done)); (focus (first | (simp [Value.ownBlock]; done) | (intro h; have h2 := Option.some.inj h; dsimp only at h2; omega))); refine have_then (p := Hd (some (W.heap.size + 1) ≠ (Value.slice A2 k c2).ownBlock)) ⟨own_ne hat ?_ ?_⟩ (fun hne11 => ?_); (focus (first | omega | (simp; done) | (simp; omega))); (focus (first | omega | (simp; done) | (simp; omega))))); (try (refine grown_keep (P := W.heap.size + 1) (o := (.cells #[.int .u8 s.kind, .int .i64 s.num, .string s.name, .slice B s.kids.length d, .int .u8 r.kind, .int .i64 r.num, .string r.name, .slice A1 r.kids.length c1] 24)) hgr ?_ ?_ (fun hd11 => ?_); (focus ((repeat first | (with_reducible exact hd11.out) | ((with_reducible refine blk_top ?_); (first | rfl | (simp; done))) | (with_reducible refine blk_drew ?_) | (with_reducible refine blk_sub ?_)); done)); (focus (first | (simp [Value.ownBlock]; done) | (intro h; have h2 := Option.some.inj h; dsimp only at h2; omega))))); (try (refine grown_keep (P := W.heap.size + 1 + 1) (o := (.cells #[.int .u8 0, .int .i64 0, .string ⟨#[]⟩, .slice none 0 0] 24)) hgr ?_ ?_ (fun hp11 => ?_); (focus ((repeat first | (with_reducible exact hd11.out) | ((with_reducible refine blk_top ?_); (first | rfl | (simp; done))) | (with_reducible refine blk_drew ?_) | (with_reducible refine blk_sub ?_)); done)); (focus (first | (simp [Value.ownBlock]; done) | (intro h; have h2 := Option.some.inj h; dsimp only at h2; omega))); refine have_then (p := Hd (some (W.heap.size + 1 + 1) ≠ (Value.slice A2 k c2).ownBlock)) ⟨own_ne hat ?_ ?_⟩ (fun hne11 => ?_); (focus (first | omega | (simp; done) | (simp; omega))); (focus (first | omega | (simp; done) | (simp; omega))))); (try (refine grown_keep (P := W.heap.size + 1 + 1) (o := (.cells #[.int .u8 s.kind, .int .i64 s.num, .string s.name, .slice B s.kids.length d, .int .u8 r.kind, .int .i64 r.num, .string r.name, .slice A1 r.kids.length c1] 24)) hgr ?_ ?_ (fun hd11 => ?_); (focus ((repeat first | (with_reducible exact hd11.out) | ((with_reducible refine blk_top ?_); (first | rfl | (simp; done))) | (with_reducible refine blk_drew ?_) | (with_reducible refine blk_sub ?_)); done)); (focus (first | (simp [Value.ownBlock]; done) | (intro h; have h2 := Option.some.inj h; dsimp only at h2; omega))))); clear hrow hgr hat))
    all_goals (go_wp2_with fail; go_meet)
    all_goals have HRow : w14.ownsRow W.heap.size 24 4 (.slice A4 (k + 2 + (t.kids.length - k)) c4) (k + 2 + (t.kids.length - k)) (valsAll ks (hs1.take k ++ [⟨B, d, fun _ => True⟩, ⟨A1, c1, fun _ => True⟩] ++ hs1.drop k)) := by rw [HVA.out]; exact HR14.out
    all_goals have hlb : ks.length * 56 ≤ 140737488355328 := by rw [← HKL.out]; exact M1.out.2.2.2.2.2
    all_goals have hz11 := BW11.out.size
    all_goals have hz12 := BW12.out.size
    all_goals have hz13 := BW13.out.size
    all_goals first
      | (have hq14 := hp14.out; exact BothIn.mk (res_below BW14.out (by omega) _ _ _ _) (set4_blk hq14 _ _ _ _) HRow HKL.out HPK.out hlb (fun g hg => res_other (fun e => hne14.out (by rw [hg, e]))))
      | exact BothIn.mk (ext_alloc BW14.out _) (new_block _ _) HRow HKL.out HPK.out hlb (fun g hg => (Go.MapKept.heap_alloc _ _).2 g (row_lt HRow hg))
  case rest =>
    obtain ⟨P, A2, c2, rfl, hb6, hp6, hi6⟩ := hcut
    have B8 := Hd.mk (B7.out.next hb6)
    have X8 := Hd.mk hp6
    have HI8 := Hd.mk hi6
    clear hb6 hi6
    obtain ⟨p0, p1, p2, p3⟩ := four_cells hp6
    clear hp6
    go_wp2_with fail
    refine (K2.out A2 c2 _ _ (HW.out.below B8.out.below) HI8.out).mono ?_
    rintro e W15 ⟨rfl, hb7⟩
    have B15 := Hd.mk (B8.out.next hb7)
    have X15 := Hd.mk (stands X8.out hb7)
    have HI15 := Hd.mk (HI8.out.below hb7)
    have GB := Hd.mk B15.out.below
    have HT15 := Hd.mk (HT.out.below GB.out)
    clear hb7
    have KS2 : Hd (∀ W', Below W15.heap.size W15 W' → (fun W' => (W'.cell? ⟨P, 0, none⟩ = some (.int .u8 57) ∧ W'.cell? ⟨P, 1, none⟩ = some (.int .i64 0) ∧ W'.cell? ⟨P, 2, none⟩ = some (.string ⟨#[]⟩) ∧ W'.cell? ⟨P, 3, none⟩ = some (.slice A2 ks.length c2)) ∧ W'.cell? ⟨w.heap.size, 0, none⟩ = some (.int .u8 t.kind) ∧ W'.cell? ⟨w.heap.size, 1, none⟩ = some (.int .i64 t.num) ∧ W'.cell? ⟨w.heap.size, 2, none⟩ = some (.string t.name) ∧ W'.cell? ⟨w.heap.size, 3, none⟩ = some (.slice A t.kids.length c)) W') := ⟨fun W' h => ⟨four_cells (stands X15.out h), (B15.out.next h).facts.1⟩⟩
    obtain ⟨⟨p0, p1, p2, p3⟩, x0, x1, x2, x3⟩ := KS2.out _ (Below.refl _ _)
    go_wp2_with fail
    go_region_held3 (fun W' => (W'.cell? ⟨P, 0, none⟩ = some (.int .u8 57) ∧ W'.cell? ⟨P, 1, none⟩ = some (.int .i64 0) ∧ W'.cell? ⟨P, 2, none⟩ = some (.string ⟨#[]⟩) ∧ W'.cell? ⟨P, 3, none⟩ = some (.slice A2 ks.length c2)) ∧ W'.cell? ⟨w.heap.size, 0, none⟩ = some (.int .u8 t.kind) ∧ W'.cell? ⟨w.heap.size, 1, none⟩ = some (.int .i64 t.num) ∧ W'.cell? ⟨w.heap.size, 2, none⟩ = some (.string t.name) ∧ W'.cell? ⟨w.heap.size, 3, none⟩ = some (.slice A t.kids.length c)) (((with_reducible refine KS2.out _ ?_); (repeat first | (with_reducible exact Below.refl _ _) | (with_reducible exact BWe.out) | (with_reducible exact BWp.out) | (with_reducible exact BWq.out) | (with_reducible refine Below.drew ?_)); done)) (first
      | (have h1 := HIp.out; have h2 := HIq.out; go_at_call 18; refine (K5.out Ap cp Aq cq _ (fun _ => True) (fun _ => True) ?_ ?_).mono ?_; (focus (first | exact HIp.out | exact HIp.out.below HBq.out)); (focus (first | exact HIq.out | exact HIq.out.below HBp.out)); rintro e w18 ⟨rfl, hb⟩; refine have_then (p := Hd (Below W15.heap.size W15 w18)) ⟨?_⟩ (fun BWe => ?_); (focus (first | exact ext_trans BWq.out hb | exact ext_trans BWp.out hb)); obtain ⟨⟨p0, p1, p2, p3⟩, x0, x1, x2, x3⟩ := KS2.out _ BWe.out; clear hb h1 h2)
      | (go_at_call 17; refine (K3.out A2 c2 _ (fun _ => True) ?_ ?_).mono ?_; (focus ((refine HW.out.below (ext_trans GB.out ?_)); (repeat first | (with_reducible exact Below.refl _ _) | (with_reducible exact BWp.out) | (with_reducible exact BWq.out) | (with_reducible refine Below.drew ?_)); done)); (focus ((refine HI15.out.below ?_); (repeat first | (with_reducible exact Below.refl _ _) | (with_reducible exact BWq.out) | (with_reducible refine Below.drew ?_)); done)); rintro e w16 ⟨Ap, cp, rfl, hb, ho⟩; have HBp := Hd.mk hb; refine have_then (p := Hd (Below W15.heap.size W15 w16)) ⟨ext_trans ?_ hb⟩ (fun BWp => ?_); (focus ((repeat first | (with_reducible exact Below.refl _ _) | (with_reducible exact BWp.out) | (with_reducible exact BWq.out) | (with_reducible refine Below.drew ?_) | (with_reducible refine ext_alloc ?_ _)); done)); have HIp := Hd.mk (In_any (ho.reads p)); obtain ⟨⟨p0, p1, p2, p3⟩, x0, x1, x2, x3⟩ := KS2.out _ BWp.out; clear hb ho)
      | (go_at_call 17; refine (K4.out A c _ ok ?_ ?_).mono ?_; (focus ((refine HW.out.below (ext_trans GB.out ?_)); (repeat first | (with_reducible exact Below.refl _ _) | (with_reducible exact BWp.out) | (with_reducible exact BWq.out) | (with_reducible refine Below.drew ?_)); done)); (focus ((refine HT15.out.below ?_); (repeat first | (with_reducible exact Below.refl _ _) | (with_reducible exact BWp.out) | (with_reducible refine Below.drew ?_)); done)); rintro e w17 ⟨Aq, cq, rfl, hb, ho⟩; have HBq := Hd.mk hb; refine have_then (p := Hd (Below W15.heap.size W15 w17)) ⟨ext_trans ?_ hb⟩ (fun BWq => ?_); (focus ((repeat first | (with_reducible exact Below.refl _ _) | (with_reducible exact BWp.out) | (with_reducible exact BWq.out) | (with_reducible refine Below.drew ?_) | (with_reducible refine ext_alloc ?_ _)); done)); have HIq := Hd.mk (In_any (ho.reads q)); obtain ⟨⟨p0, p1, p2, p3⟩, x0, x1, x2, x3⟩ := KS2.out _ BWq.out; clear hb ho))
    all_goals
      go_wp2_with fail
      go_ret
      exact ⟨rfl, ext_trans GB.out BWe.out⟩
end Go.Proofs.YtgjanglonccclaaDoor
