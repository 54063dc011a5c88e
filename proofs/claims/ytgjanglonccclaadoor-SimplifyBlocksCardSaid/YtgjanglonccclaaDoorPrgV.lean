/- Contract of ast.Valid. -/
import Derived.Test.YtgjanglonccclaaDoorPrgB
import Derived.Test.YtgjanglonccclaaDoorBC
import Derived.Test.YtgjanglonccclaaDoorBA
namespace Go.Proofs.YtgjanglonccclaaDoor
open Go.RowKit
set_option linter.unusedVariables false
set_option linter.unusedSimpArgs false

set_option maxHeartbeats 1000000 in
theorem decl_any (d : Decl) (hd : d.Fits) (w : World) (hw : Good w) :
    Calls Tryd.prog 64 #[(.agg #[.string d.name, .int .u8 d.kind, .int .i64 d.len])] w fun e w' => e = .returned (.bool d.ok) ∧ Below w.heap.size w w' := by
  have hb0 := ext_alloc (Below.refl w.heap.size w) (.cells #[.string d.name, .int .u8 d.kind, .int .i64 d.len] 58)
  have HN := Hd.mk (name_any d.name hd.name _ (hw.below hb0))
  have HB0 := Hd.mk hb0
  have HX := Hd.mk (show d.ok = (nameB d.name && (if d.kind == 2 then decide (1 ≤ d.len) && decide (d.len ≤ 16) else (d.kind == 1 || d.kind == 3) && d.len == 0)) from rfl)
  clear hw hd hb0
  generalize nameB d.name = nb at HN HX
  go_enter Tryd.func64, Tryd.ntmps64
  go_wp2_with fail
  refine HN.out.mono ?_
  rintro e w1 ⟨rfl, hb1⟩
  have HB1 := Hd.mk (ext_trans HB0.out hb1)
  obtain ⟨x0, x1, x2⟩ := three_cells (stands (new_block w (.cells #[.string d.name, .int .u8 d.kind, .int .i64 d.len] 58)) hb1)
  clear hb1
  cases nb
  · go_wp2_with fail
    go_ret
    exact ⟨ret_bool (by rw [HX.out]; rfl), HB1.out⟩
  · cases h2 : (d.kind == 2)
    · rw [h2] at HX
      go_wp2_with fail
      all_goals
        go_ret
        exact ⟨ret_bool (by rw [HX.out]; first | (simp [*]; done) | (simp [*]; omega)), HB1.out⟩
    · rw [h2] at HX
      go_wp2_with fail
      all_goals
        go_ret
        exact ⟨ret_bool (by rw [HX.out]; first | (simp [*]; done) | (simp [*]; omega)), HB1.out⟩

theorem decls1_any (d : Decl) (hd : d.Fits) (w : World) (hw : Good w) :
    Calls Tryd.prog 63 #[(.agg #[.string d.name, .int .u8 d.kind, .int .i64 d.len])] w fun e w' => e = .returned (.bool (!d.ok)) ∧ Below w.heap.size w w' := by
  have hb0 := ext_alloc (Below.refl w.heap.size w) (.cells #[.string d.name, .int .u8 d.kind, .int .i64 d.len] 58)
  have HN := Hd.mk (decl_any d hd _ (hw.below hb0))
  have HB0 := Hd.mk hb0
  clear hw hd hb0
  go_enter Tryd.func63, Tryd.ntmps63
  go_wp2_with fail
  refine HN.out.mono ?_
  rintro e w1 ⟨rfl, hb1⟩
  go_wp2_with fail
  go_ret
  exact ⟨rfl, ext_trans HB0.out hb1⟩
theorem goes_decls1 : Goes 63 := goes_of Tryd.func63 (by kernel_rfl) rfl

def idxD (p : Decl → Bool) (l : List Decl) : Int := if l.any p then (l.findIdx p : Int) else -1
theorem idxD_hit {p : Decl → Bool} {l : List Decl} {j : Nat} (hj : j < l.length) (h : ∀ k ∈ l.take j, p k = false) (hp : p l[j] = true) : (j : Int) = idxD p l := by
  have h1 : l.any p = true := List.any_eq_true.2 ⟨l[j], List.getElem_mem _, hp⟩
  have h2 : l.findIdx p = j := by
    rw [List.findIdx_eq hj]
    refine ⟨hp, fun i hi => ?_⟩
    exact h _ (List.mem_take_iff_getElem.2 ⟨i, by omega, rfl⟩)
  simp [idxD, h1, h2]
theorem idxD_miss {p : Decl → Bool} {l : List Decl} (h : ∀ k ∈ l, p k = false) : (-1 : Int) = idxD p l := by
  have h1 : l.any p = false := List.any_eq_false.2 (fun k hk => by simp [h k hk])
  simp [idxD, h1]
theorem idxD_any (p : Decl → Bool) (l : List Decl) : decide (idxD p l ≥ 0) = l.any p := by
  unfold idxD
  cases l.any p <;> simp
/-- A test over declarations, as a function value. -/
def TestsD (fn : FuncId) (p : Decl → Bool) (w : World) (d : Decl) : Prop :=
  ∀ (W : World), Below w.heap.size w W → Calls Tryd.prog fn #[(.agg #[.string d.name, .int .u8 d.kind, .int .i64 d.len])] W fun e W' => e = .returned (.bool (p d)) ∧ Below W.heap.size W W'
theorem indexD_any (l : List Decl) (A : Option Addr) (c : Nat) (w : World) (ok : Nat → Prop) (h : DeclsIn w ok l A c) (fn : FuncId) (hg : Goes fn) (p : Decl → Bool) (hp : ∀ k ∈ l, TestsD fn p w k) :
    Calls Tryd.prog 85 #[.slice A l.length c, .func (.func fn) #[] #[]] w
      fun e w' => e = .returned (.int .i64 (idxD p l)) ∧ Below w.heap.size w w' := by
  have H := Hd.mk h
  have HP := Hd.mk hp
  have hl := h.lenZ
  clear h hp
  have hgo : ∀ (args : Array Value) (w : World), (callFunc fn args).run Tryd.prog w = .ok (.enter fn args) w := hg
  clear hg
  go_enter Tryd.func85, Tryd.ntmps85
  go_wp2_with fail
  go_loopw [5,8] (fun v5 v8 W => ∃ j : Nat, j ≤ l.length ∧ v8 = .int .i64 j ∧ Hd (∀ k ∈ l.take j, p k = false) ∧ Below w.heap.size w W) (fun _ v8 _ => l.length - (intOf v8).toNat)
  case atStart => exact ⟨0, Nat.zero_le _, rfl, ⟨by simp⟩, Below.refl _ _⟩
  case round =>
    obtain ⟨j, hj, rfl, HS, HB⟩ := hrel
    by_cases hlt : j < l.length
    · obtain ⟨b, o, rfl, e0, e1, e2, _⟩ := (H.out.below HB).at_ j hlt
      have HC := Hd.mk (HP.out l[j] (List.getElem_mem _) wr HB)
      cases hpj : p l[j]
      · rw [hpj] at HC
        have HH := Hd.mk hpj
        clear hpj
        go_wp2_with (refine (HC.out).mono ?_; rintro e w' ⟨rfl, hb⟩)
        go_roundw
        case rel => exact ⟨j + 1, hlt, by go_num, ⟨fun k hk => by
          rw [List.take_succ_eq_append_getElem hlt] at hk
          rcases List.mem_append.1 hk with hk | hk
          · exact HS.out k hk
          · simp at hk; subst hk; exact HH.out⟩, ext_trans HB hb⟩
        case measure => simp [intOf]; omega
      · rw [hpj] at HC
        have HH := Hd.mk hpj
        clear hpj
        go_wp2_with (refine (HC.out).mono ?_; rintro e w' ⟨rfl, hb⟩)
        go_ret
        exact ⟨ret_int (idxD_hit hlt HS.out HH.out), ext_trans HB hb⟩
    · have : j = l.length := by omega
      subst this
      go_wp2_with fail
      go_ret
      exact ⟨ret_int (idxD_miss (by have := HS.out; rwa [List.take_length] at this)), HB⟩
theorem containsD_any (l : List Decl) (A : Option Addr) (c : Nat) (w : World) (ok : Nat → Prop) (h : DeclsIn w ok l A c) (fn : FuncId) (hg : Goes fn) (p : Decl → Bool) (hp : ∀ k ∈ l, TestsD fn p w k) :
    Calls Tryd.prog 62 #[.slice A l.length c, .func (.func fn) #[] #[]] w
      fun e w' => e = .returned (.bool (l.any p)) ∧ Below w.heap.size w w' := by
  have HI := Hd.mk (indexD_any l A c w ok h fn hg p hp)
  have HX := Hd.mk (idxD_any p l)
  clear h hp
  go_enter Tryd.func62, Tryd.ntmps62
  go_wp2_with (refine (HI.out).mono ?_; rintro e w' ⟨rfl, hb⟩)
  go_ret
  exact ⟨ret_bool (by rw [← HX.out]), hb⟩
theorem any_not_all {α : Type} (p : α → Bool) (l : List α) : (!l.any fun x => !p x) = l.all p := by
  induction l with
  | nil => rfl
  | cons a l ih => simp [← ih, Bool.not_or]
theorem decls_any (l : List Decl) (most : Int) (A : Option Addr) (c : Nat) (w : World) (ok : Nat → Prop) (hw : Good w) (h : DeclsIn w ok l A c) :
    Calls Tryd.prog 44 #[.slice A l.length c, .int .i64 most] w fun e w' => e = .returned (.bool (declsB l most)) ∧ Below w.heap.size w w' := by
  have HC := Hd.mk (containsD_any l A c w ok h _ goes_decls1 (fun d => !d.ok) (fun k hk W hb => decls1_any k (h.fits k hk) W (hw.below hb)))
  have HX := Hd.mk (show declsB l most = (decide ((l.length : Int) ≤ most) && !l.any fun d => !d.ok) by rw [any_not_all]; rfl)
  have hl := h.lenZ
  clear h hw
  by_cases hm : (l.length : Int) ≤ most
  · have hd : decide ((l.length : Int) ≤ most) = true := by simpa using hm
    rw [hd] at HX
    go_enter Tryd.func44, Tryd.ntmps44
    go_wp2_with (refine (HC.out).mono ?_; rintro e w' ⟨rfl, hb⟩)
    go_ret
    exact ⟨ret_bool (by rw [HX.out]; rfl), hb⟩
  · have hd : decide ((l.length : Int) ≤ most) = false := by simpa using hm
    rw [hd] at HX
    go_enter Tryd.func44, Tryd.ntmps44
    go_wp2_with fail
    go_ret
    exact ⟨ret_bool (by rw [HX.out]; rfl), Below.refl _ _⟩

theorem depth_any (t : Node) : ∀ (A : Option Addr) (c : Nat) (w : World) (ok : Nat → Prop) (h : t.In w ok A c),
    Calls Tryd.prog 65 #[.agg #[.int .u8 t.kind, .int .i64 t.num, .string t.name, .slice A t.kids.length c]] w fun e w' => e = .returned (.int .i64 t.depthW) ∧ Below w.heap.size w w' := by
  induction t using Node.ind with
  | h t ih =>
  intro A c w ok h
  have H := Hd.mk h
  have IH := Hd.mk ih
  have hl := h.lenZ
  clear h ih
  go_enter Tryd.func65, Tryd.ntmps65
  go_wp2_with fail
  go_loopw [3,5,9] (fun v3 v5 v9 W => ∃ j : Nat, ∃ m : Int, j ≤ t.kids.length ∧ v9 = .int .i64 j ∧ v3 = .int .i64 m ∧ Hd (depthsW m (t.kids.drop j) = depthsW 0 t.kids) ∧ Below w.heap.size w W) (fun _ _ v9 _ => t.kids.length - (intOf v9).toNat)
  case atStart => exact ⟨0, 0, Nat.zero_le _, rfl, rfl, ⟨rfl⟩, ext_alloc (Below.refl _ _) _⟩
  case round =>
    obtain ⟨j, m, hj, rfl, rfl, HS, HB⟩ := hrel
    by_cases hlt : j < t.kids.length
    · obtain ⟨b, o, A1, c1, rfl, e0, e1, e2, e3, h4⟩ := (H.out.below HB).at_ j hlt
      have IH1 := Hd.mk (IH.out t.kids[j] (List.getElem_mem _))
      go_wp2_with (go_at_call 65; refine (IH1.out A1 c1 _ ok (h4.below (ext_alloc (Below.refl _ _) _))).mono ?_; rintro e w' ⟨rfl, hb⟩)
      go_roundw
      case rel => exact ⟨j + 1, _, hlt, by go_num, rfl, ⟨by rw [← HS.out, depthsW_drop hlt]⟩, (ext_trans HB (ext_trans (ext_alloc (Below.refl _ _) _) hb))⟩
      case measure => simp [intOf]; omega
    · have : j = t.kids.length := by omega
      subst this
      have HS2 := Hd.mk (show depthsW 0 t.kids = m by have := HS.out; rw [List.drop_length] at this; exact this.symm)
      go_wp2_with fail
      go_ret
      exact ⟨ret_int (by rw [Node.depthW_eq, HS2.out]), HB⟩

theorem body_any (t : Node) (A : Option Addr) (c : Nat) (w : World) (ok : Nat → Prop) (hw : Good w) (h : t.In w ok A c) :
    Calls Tryd.prog 45 #[.agg #[.int .u8 t.kind, .int .i64 t.num, .string t.name, .slice A t.kids.length c]] w fun e w' => e = .returned (.bool t.bodyB) ∧ Below w.heap.size w w' := by
  have B0 := Hd.mk (Box1.start w t A c)
  have HI := Hd.mk (fun W (hb : Below w.heap.size w W) => isBlock_any t A c W ok (hw.below hb) (h.below hb))
  have HD := Hd.mk (fun W (hb : Below w.heap.size w W) => depth_any t A c W ok (h.below hb))
  have HS := Hd.mk (fun W (hb : Below w.heap.size w W) => size_any t A c W ok (h.below hb))
  have HX := Hd.mk (show t.bodyB = (t.isBlock && (decide (t.depthW ≤ 80) && decide (t.sizeW ≤ 2000))) from rfl)
  clear h hw
  generalize t.isBlock = b1 at HI HX
  generalize t.depthW = d1 at HD HX
  generalize t.sizeW = s1 at HS HX
  go_enter Tryd.func45, Tryd.ntmps45
  go_wp2_with fail
  refine (HI.out _ B0.out.below).mono ?_
  rintro e w1 ⟨rfl, hb1⟩
  have B1 := Hd.mk (B0.out.next hb1)
  obtain ⟨⟨x0, x1, x2, x3⟩, hz⟩ := B1.out.facts
  clear hb1
  cases b1
  · go_wp2_with fail
    go_ret
    exact ⟨ret_bool (by rw [HX.out]; rfl), B1.out.below⟩
  go_wp2_with fail
  refine (HD.out _ B1.out.below).mono ?_
  rintro e w2 ⟨rfl, hb2⟩
  have B2 := Hd.mk (B1.out.next hb2)
  obtain ⟨⟨x0, x1, x2, x3⟩, hz⟩ := B2.out.facts
  clear hb2
  by_cases hd : d1 ≤ 80
  · have hd1 : decide (d1 ≤ 80) = true := by simpa using hd
    rw [hd1] at HX
    go_wp2_with fail
    refine (HS.out _ B2.out.below).mono ?_
    rintro e w3 ⟨rfl, hb3⟩
    have B3 := Hd.mk (B2.out.next hb3)
    clear hb3
    go_wp2_with fail
    go_ret
    exact ⟨ret_bool (by rw [HX.out]; simp), B3.out.below⟩
  · have hd1 : decide (d1 ≤ 80) = false := by simpa using hd
    rw [hd1] at HX
    go_wp2_with fail
    go_ret
    exact ⟨ret_bool (by rw [HX.out]; simp), B2.out.below⟩

/-- A boxed program. -/
structure BoxP (w W : World) (p : Prg) (h : GH) : Prop where
  below : Below w.heap.size w W
  size : w.heap.size < W.heap.size
  box : W.heap[w.heap.size]? = some (.cells #[.slice h.A p.vars.length h.c, .slice h.B p.procs.length h.d, .int .u8 p.main.kind, .int .i64 p.main.num, .string p.main.name, .slice h.C p.main.kids.length h.e] 38)
theorem BoxP.start (w : World) (p : Prg) (h : GH) : BoxP w (w.alloc (.cells #[.slice h.A p.vars.length h.c, .slice h.B p.procs.length h.d, .int .u8 p.main.kind, .int .i64 p.main.num, .string p.main.name, .slice h.C p.main.kids.length h.e] 38)) p h := ⟨ext_alloc (Below.refl _ _) _, by simp, new_block _ _⟩
theorem BoxP.next {w W W2 : World} {p : Prg} {h : GH} (X : BoxP w W p h) (hb : Below W.heap.size W W2) : BoxP w W2 p h := ⟨ext_trans X.below hb, Nat.lt_of_lt_of_le X.size hb.size, stands X.box hb⟩
theorem BoxP.facts {w W : World} {p : Prg} {h : GH} (X : BoxP w W p h) :
    (W.cell? ⟨w.heap.size, 0, none⟩ = some (.slice h.A p.vars.length h.c) ∧ W.cell? ⟨w.heap.size, 1, none⟩ = some (.slice h.B p.procs.length h.d) ∧ W.cell? ⟨w.heap.size, 2, none⟩ = some (.int .u8 p.main.kind) ∧ W.cell? ⟨w.heap.size, 3, none⟩ = some (.int .i64 p.main.num) ∧
      W.cell? ⟨w.heap.size, 4, none⟩ = some (.string p.main.name) ∧ W.cell? ⟨w.heap.size, 5, none⟩ = some (.slice h.C p.main.kids.length h.e)) ∧ w.heap.size < W.heap.size := ⟨six_cells X.box, X.size⟩
theorem all_take {α : Type} {P : α → Bool} {l : List α} {j : Nat} (hj : j < l.length) (h : (l.take j).all P = true) (hp : P l[j] = true) : (l.take (j + 1)).all P = true := by
  rw [List.take_succ_eq_append_getElem hj, List.all_append, h]; simp [hp]
theorem all_miss {α : Type} {P : α → Bool} {l : List α} {j : Nat} (hj : j < l.length) (hp : P l[j] = false) : l.all P = false := by
  rw [List.all_eq_false]; exact ⟨l[j], List.getElem_mem _, by simp [hp]⟩

set_option maxHeartbeats 2000000 in
theorem valid_any (p : Prg) (h : GH) (w : World) (ok : Nat → Prop) (hw : Good w) (hp : PrgIn w ok p h) :
    Calls Tryd.prog 23 #[(.agg #[.slice h.A p.vars.length h.c, .slice h.B p.procs.length h.d, .int .u8 p.main.kind, .int .i64 p.main.num, .string p.main.name, .slice h.C p.main.kids.length h.e])] w fun e w' => e = .returned (.bool p.validB) ∧ Below w.heap.size w w' := by
  have B0 := Hd.mk (BoxP.start w p h)
  obtain ⟨hs, hq⟩ := hp.procs
  have HI := Hd.mk (fun W (hb : Below w.heap.size w W) => decls_any p.vars 32 h.A h.c W ok (hw.below hb) (hp.vars.below hb))
  have HB := Hd.mk (fun W (hb : Below w.heap.size w W) => body_any p.main h.C h.e W ok (hw.below hb) (hp.main.below hb))
  have HQ := Hd.mk hq
  have HW := Hd.mk hw
  have hlv := hp.vars.lenZ
  have hlp := hq.lenZ
  have HX := Hd.mk (show p.validB = ((declsB p.vars 32 && (decide ((p.procs.length : Int) ≤ 64) && p.main.bodyB)) && p.procs.all Prc.okB) from rfl)
  clear hp hw hq
  generalize declsB p.vars 32 = b1 at HI HX
  generalize p.main.bodyB = b2 at HB HX
  go_enter Tryd.func23, Tryd.ntmps23
  go_wp2_with fail
  refine (HI.out _ B0.out.below).mono ?_
  rintro e w1 ⟨rfl, hb1⟩
  have B1 := Hd.mk (B0.out.next hb1)
  obtain ⟨⟨x0, x1, x2, x3, x4, x5⟩, hz⟩ := B1.out.facts
  clear hb1
  cases b1
  · go_wp2_with fail
    go_ret
    exact ⟨ret_bool (by rw [HX.out]; rfl), B1.out.below⟩
  by_cases hd : (p.procs.length : Int) ≤ 64
  case neg =>
    have hd1 : decide ((p.procs.length : Int) ≤ 64) = false := by simpa using hd
    rw [hd1] at HX
    go_wp2_with fail
    go_ret
    exact ⟨ret_bool (by rw [HX.out]; simp), B1.out.below⟩
  have hd1 : decide ((p.procs.length : Int) ≤ 64) = true := by simpa using hd
  rw [hd1] at HX
  go_wp2_with fail
  refine (HB.out _ B1.out.below).mono ?_
  rintro e w2 ⟨rfl, hb2⟩
  have B2 := Hd.mk (B1.out.next hb2)
  obtain ⟨⟨x0, x1, x2, x3, x4, x5⟩, hz⟩ := B2.out.facts
  clear hb2
  cases b2
  · go_wp2_with fail
    go_ret
    exact ⟨ret_bool (by rw [HX.out]; simp), B2.out.below⟩
  go_wp2_with fail
  go_loopw [4, 24] (fun v4 v24 W => ∃ j : Nat, j ≤ p.procs.length ∧ v24 = .int .i64 j ∧ Hd ((p.procs.take j).all Prc.okB = true) ∧ Below w.heap.size w W) (fun _ v24 _ => p.procs.length - (intOf v24).toNat)
  case atStart => exact ⟨0, Nat.zero_le _, rfl, ⟨by simp⟩, B2.out.below⟩
  case round =>
    clear x0 x1 x2 x3 x4 x5
    obtain ⟨j, hj, rfl, HS, HBw⟩ := hrel
    by_cases hlt : j < p.procs.length
    · obtain ⟨b, o, g, hA, ⟨e0, e1, e2, e3, e4, e5⟩, hbl, hpi⟩ := (HQ.out.below HBw).at_ j hlt
      have HA := Hd.mk hA
      have HPI := Hd.mk hpi
      have HXj := Hd.mk (show (p.procs[j]).okB = (nameB p.procs[j].name && (declsB p.procs[j].params 8 && p.procs[j].body.bodyB)) from rfl)
      have HHB := Hd.mk HBw
      have X0 := Hd.mk (new_block wr (.cells #[.string p.procs[j].name, .slice g.A p.procs[j].params.length g.c, .int .u8 p.procs[j].body.kind, .int .i64 p.procs[j].body.num, .string p.procs[j].body.name, .slice g.B p.procs[j].body.kids.length g.d] 55))
      have HBX := Hd.mk (ext_alloc (Below.refl wr.heap.size wr) (.cells #[.string p.procs[j].name, .slice g.A p.procs[j].params.length g.c, .int .u8 p.procs[j].body.kind, .int .i64 p.procs[j].body.num, .string p.procs[j].body.name, .slice g.B p.procs[j].body.kids.length g.d] 55))
      have HNM := Hd.mk (fun W (hb : Below wr.heap.size wr W) => name_any p.procs[j].name HPI.out.name W (HW.out.below (ext_trans HHB.out hb)))
      have HDM := Hd.mk (fun W (hb : Below wr.heap.size wr W) => decls_any p.procs[j].params 8 g.A g.c W ok (HW.out.below (ext_trans HHB.out hb)) (HPI.out.params.below hb))
      have HBM := Hd.mk (fun W (hb : Below wr.heap.size wr W) => body_any p.procs[j].body g.B g.d W ok (HW.out.below (ext_trans HHB.out hb)) (HPI.out.body.below hb))
      generalize nameB p.procs[j].name = n1 at HNM HXj
      generalize declsB p.procs[j].params 8 = n2 at HDM HXj
      generalize p.procs[j].body.bodyB = n3 at HBM HXj
      rw [hA]
      clear hA hpi HBw
      go_wp2_with fail
      refine (HNM.out _ HBX.out).mono ?_
      rintro e w3 ⟨rfl, hb3⟩
      have HB3 := Hd.mk (ext_trans HBX.out hb3)
      have X3 := Hd.mk (stands X0.out hb3)
      obtain ⟨y0, y1, y2, y3, y4, y5⟩ := six_cells X3.out
      clear hb3
      cases n1
      · go_wp2_with fail
        go_ret
        exact ⟨ret_bool (by rw [HX.out, all_miss hlt HXj.out]; simp), ext_trans HHB.out HB3.out⟩
      go_wp2_with fail
      refine (HDM.out _ HB3.out).mono ?_
      rintro e w4 ⟨rfl, hb4⟩
      have HB4 := Hd.mk (ext_trans HB3.out hb4)
      have X4 := Hd.mk (stands X3.out hb4)
      obtain ⟨y0, y1, y2, y3, y4, y5⟩ := six_cells X4.out
      clear hb4
      cases n2
      · go_wp2_with fail
        go_ret
        exact ⟨ret_bool (by rw [HX.out, all_miss hlt HXj.out]; simp), ext_trans HHB.out HB4.out⟩
      go_wp2_with fail
      refine (HBM.out _ HB4.out).mono ?_
      rintro e w5 ⟨rfl, hb5⟩
      have HB5 := Hd.mk (ext_trans HB4.out hb5)
      clear hb5
      cases n3
      · go_wp2_with fail
        go_ret
        exact ⟨ret_bool (by rw [HX.out, all_miss hlt HXj.out]; simp), ext_trans HHB.out HB5.out⟩
      go_wp2_with fail
      go_roundw
      case rel => exact ⟨j + 1, hlt, by go_num, ⟨all_take hlt HS.out HXj.out⟩, ext_trans HHB.out HB5.out⟩
      case measure => simp [intOf]; omega
    · have : j = p.procs.length := by omega
      subst this
      go_wp2_with fail
      go_ret
      exact ⟨ret_bool (by rw [HX.out]; have := HS.out; rw [List.take_length] at this; rw [this]; rfl), HBw⟩
end Go.Proofs.YtgjanglonccclaaDoor
