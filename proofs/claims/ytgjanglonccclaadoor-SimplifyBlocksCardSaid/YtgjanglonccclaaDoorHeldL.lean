/- A drawn region whose last operation waits for all the others: the others by the library's held walk, the last one behind them, where the condition on the world need not hold any more (a load and a store of one cell). -/
import Derived.Test.YtgjanglonccclaaDoorBA
import Derived.Deep.RegionHeld3
namespace Go.Proofs.YtgjanglonccclaaDoor
open Go.RowKit
set_option linter.unusedVariables false
set_option linter.unusedSimpArgs false

section
variable {P : Program} {ops : Array Oper} {Q : Exit → Act → World → Prop} {md : Region.Mode} {S : World → Prop}

/-- What is left behind all but the last operation. -/
def Behind (P : Program) (ops : Array Oper) (Q : Exit → Act → World → Prop) (n : Nat) : Exit → Act → World → Prop
  | .normal, a, w => wpOp P ops Q n (fun a w => Q .normal a w) a w
  | e, a, w => Q e a w
/-- Edges lead back, and the last operation waits for all. -/
def lastWaits (md : Region.Mode) (ops : Array Oper) (n : Nat) : Bool :=
  (List.range (n + 1)).all (fun i => ((ops[i]?).map fun o => o.after.all fun e => decide (e.on < i)).getD false) &&
    (List.range n).all (fun i => ((ops[n]?).map fun o => o.after.any fun e => Region.binds md e && e.on == i).getD false)
/-- The marks without the last one, and with it. -/
structure Marks2 (l l' : Array Bool) (n : Nat) : Prop where
  size : l.size = n
  size' : l'.size = n + 1
  same : ∀ i, i < n → l'.getD i true = l.getD i true
  last : l'.getD n true = false

theorem getD_flip {l : Array Bool} {i : Nat} (h : i < l.size) : l.getD i false = l.getD i true := by simp [Array.getD, h]
theorem getD_out {l : Array Bool} {i : Nat} {d : Bool} (h : l.size ≤ i) : l.getD i d = d := by
  have : ¬ i < l.size := by omega
  simp [Array.getD, this]
theorem Marks2.at_ {l l' : Array Bool} {n : Nat} (m : Marks2 l l' n) (i : Nat) : l'.getD i false = l.getD i false := by
  rcases Nat.lt_trichotomy i n with h | h | h
  · rw [getD_flip (by rw [m.size']; omega), getD_flip (by rw [m.size]; exact h), m.same i h]
  · subst h
    rw [getD_flip (by rw [m.size']; omega), m.last, getD_out (by rw [m.size]; exact Nat.le_refl _)]
  · rw [getD_out (by rw [m.size']; omega), getD_out (by rw [m.size]; omega)]
theorem Marks2.set {l l' : Array Bool} {n : Nat} (m : Marks2 l l' n) {i : Nat} (hi : i < n) : Marks2 (l.setIfInBounds i true) (l'.setIfInBounds i true) n := by
  refine ⟨by simp [m.size], by simp [m.size'], fun j hj => ?_, ?_⟩
  · by_cases h : i = j
    · subst h
      simp [Array.getD, m.size, m.size', hj, show i < n + 1 by omega]
    · rw [getD_set_ne true h, getD_set_ne true h]; exact m.same j hj
  · rw [getD_set_ne true (by omega)]; exact m.last
theorem pop_at {n i : Nat} (hn : ops.size = n + 1) (hi : i < n) : (ops.pop)[i]? = ops[i]? := by
  rw [Array.getElem?_pop]; simp; omega
theorem ready_pop {l l' : Array Bool} {n : Nat} (hn : ops.size = n + 1) (m : Marks2 l l' n) {i : Nat} (hi : i < n) : i ∈ Region.ready md ops l' ↔ i ∈ Region.ready md ops.pop l := by
  rw [mem_ready, mem_ready, pop_at hn hi, m.same i hi]
  simp only [m.at_]
/-- When no operation may come up, all have. -/
theorem all_listed {l : Array Bool} {n : Nat} (hn : ops.size = n + 1) (hl : lastWaits md ops n = true) (hs : l.size = n) (hr : Region.ready md ops.pop l = []) : ∀ i, i < n → l.getD i false = true := by
  intro i
  induction i using Nat.strongRecOn with
  | _ i ih =>
    intro hi
    cases hb : l.getD i false with
    | true => rfl
    | false =>
      have hin : i ∈ Region.ready md ops.pop l := by
        rw [mem_ready]
        refine ⟨by rw [← getD_flip (by omega)]; exact hb, ?_⟩
        have hio : i < ops.size := by omega
        refine ⟨ops[i], by rw [pop_at hn hi]; exact Array.getElem?_eq_getElem hio, fun e he _ => ?_⟩
        unfold lastWaits at hl
        rw [Bool.and_eq_true, List.all_eq_true] at hl
        have h1 := hl.1 i (List.mem_range.2 (by omega))
        rw [Array.getElem?_eq_getElem hio] at h1
        simp only [Option.map_some, Option.getD_some, Array.all_eq_true_iff_forall_mem, decide_eq_true_eq] at h1
        have h2 := h1 e he
        exact ih e.on h2 (by omega)
      rw [hr] at hin; cases hin
theorem last_ready {l' : Array Bool} {n : Nat} (hn : ops.size = n + 1) (hl : lastWaits md ops n = true) (hr : n ∈ Region.ready md ops l') : ∀ i, i < n → l'.getD i false = true := by
  intro i hi
  obtain ⟨_, o, ho, hall⟩ := mem_ready.1 hr
  unfold lastWaits at hl
  rw [Bool.and_eq_true, List.all_eq_true, List.all_eq_true] at hl
  have h1 := hl.2 i (List.mem_range.2 hi)
  rw [ho] at h1
  simp only [Option.map_some, Option.getD_some, Array.any_eq_true, Bool.and_eq_true, beq_iff_eq] at h1
  obtain ⟨k, hk, hb, he⟩ := h1
  have := hall _ (Array.getElem_mem hk) hb
  rw [he] at this; exact this
theorem ready_full {l' : Array Bool} {n : Nat} (hn : ops.size = n + 1) (h : ∀ i, i < n → l'.getD i false = true) (h2 : l'.getD n true = true) (hs : l'.size = n + 1) : Region.ready md ops l' = [] := by
  cases hr : Region.ready md ops l' with
  | nil => rfl
  | cons x xs =>
    exfalso
    have hx : x ∈ Region.ready md ops l' := by rw [hr]; simp
    obtain ⟨h0, o, ho, _⟩ := mem_ready.1 hx
    have hlt : x < n + 1 := by rw [← hn]; exact (Array.getElem?_eq_some_iff.1 ho).1
    rcases Nat.lt_or_ge x n with hxn | hxn
    · have := h x hxn
      rw [getD_flip (by omega), h0] at this; cases this
    · obtain rfl : x = n := by omega
      rw [h0] at h2; cases h2
/-- No operation hangs on another's answer. -/
def noGuards (ops : Array Oper) : Bool := ops.all fun o => o.guard.isNone
theorem wanted_all {o : Oper} {i : Nat} (hg : noGuards ops = true) (ho : ops[i]? = some o) (y : Nat → Option Bool) : Region.wanted o y = true := by
  unfold noGuards at hg
  rw [Array.all_eq_true_iff_forall_mem] at hg
  have := hg o (Array.mem_of_getElem? ho)
  cases h : o.guard with
  | none => simp [Region.wanted, h]
  | some x => rw [h] at this; cases this
theorem wpOp_behind {n i : Nat} (hg : noGuards ops = true) (hn : ops.size = n + 1) (hi : i < n) {K K' : Act → World → Prop} {a : Act} {w : World} (hk : ∀ a w, K a w → K' a w) (h : wpOp P ops.pop (Behind P ops Q n) i K a w) : wpOp P ops Q i K' a w := by
  unfold wpOp at h ⊢
  rw [pop_at hn hi] at h
  cases ho : ops[i]? with
  | none => rw [ho] at h; exact hk _ _ h
  | some o =>
    rw [ho] at h
    dsimp only at h ⊢
    rw [if_pos (wanted_all hg ho _)] at h ⊢
    rcases h with h | h
    · exact .inl (Oper.wp_mono hk h)
    · exact .inr h
theorem wpAny_behind {n : Nat} (hg : noGuards ops = true) (hn : ops.size = n + 1) (hl : lastWaits md ops n = true) : ∀ (fuel : Nat) (l l' : Array Bool) (a : Act) (w : World), Marks2 l l' n →
    wpAny P md ops.pop (Behind P ops Q n) fuel l a w → wpAny P md ops Q (fuel + 1) l' a w := by
  intro fuel
  induction fuel with
  | zero =>
    intro l l' a w m h
    have hall := all_listed hn hl m.size h.1
    have hall' : ∀ i, i < n → l'.getD i false = true := fun i hi => by rw [m.at_]; exact hall i hi
    have hnr : n ∈ Region.ready md ops l' := by
      have hno : n < ops.size := by omega
      refine mem_ready.2 ⟨m.last, ops[n], Array.getElem?_eq_getElem hno, fun e he _ => ?_⟩
      unfold lastWaits at hl
      rw [Bool.and_eq_true, List.all_eq_true] at hl
      have h1 := hl.1 n (List.mem_range.2 (by omega))
      rw [Array.getElem?_eq_getElem hno] at h1
      simp only [Option.map_some, Option.getD_some, Array.all_eq_true_iff_forall_mem, decide_eq_true_eq] at h1
      exact hall' _ (h1 e he)
    refine ⟨fun h0 => (by rw [h0] at hnr; cases hnr), fun i hi => ?_⟩
    rcases Nat.lt_or_ge i n with h2 | h2
    · have := (ready_pop hn m h2).1 hi
      rw [h.1] at this; cases this
    · have hin : i = n := by
        obtain ⟨_, o, ho, _⟩ := mem_ready.1 hi
        have := (Array.getElem?_eq_some_iff.1 ho).1
        omega
      subst hin
      refine wpOp_mono (fun a' w' hq => ?_) h.2
      exact ⟨ready_full hn (fun j hj => by
        have := hall' j hj
        exact getD_set_true this) (by simp [Array.getD, m.size']) (by simp [m.size']), hq⟩
  | succ fuel ih =>
    intro l l' a w m h
    by_cases hr : Region.ready md ops.pop l = []
    · have h0 := ih l l' a w m (by
        cases fuel with
        | zero => exact ⟨hr, h.1 hr⟩
        | succ f => exact ⟨fun _ => h.1 hr, by rw [hr]; simp⟩)
      -- one step more changes nothing
      have more : ∀ (f : Nat) (l : Array Bool) (a : Act) (w : World), wpAny P md ops Q f l a w → wpAny P md ops Q (f + 1) l a w := by
        intro f
        induction f with
        | zero => intro l a w h; exact ⟨fun _ => h.2, by rw [h.1]; simp⟩
        | succ f ihf => intro l a w h; exact ⟨h.1, fun i hi => wpOp_mono (fun a w hh => ihf _ _ _ hh) (h.2 i hi)⟩
      exact more _ _ _ _ h0
    · refine ⟨fun h0 => ?_, fun i hi => ?_⟩
      · exfalso
        obtain ⟨x, hx⟩ := List.exists_mem_of_ne_nil _ hr
        have hxn : x < n := by
          obtain ⟨_, o, ho, _⟩ := mem_ready.1 hx
          have := (Array.getElem?_eq_some_iff.1 ho).1
          simp at this; omega
        have := (ready_pop hn m hxn).2 hx
        rw [h0] at this; cases this
      · rcases Nat.lt_or_ge i n with h2 | h2
        · exact wpOp_behind hg hn h2 (fun a w hh => ih _ _ _ _ (m.set h2) hh) (h.2 i ((ready_pop hn m h2).1 hi))
        · exfalso
          have hin : i = n := by
            obtain ⟨_, o, ho, _⟩ := mem_ready.1 hi
            have := (Array.getElem?_eq_some_iff.1 ho).1
            omega
          subst hin
          obtain ⟨x, hx⟩ := List.exists_mem_of_ne_nil _ hr
          have hxn : x < i := by
            obtain ⟨_, o, ho, _⟩ := mem_ready.1 hx
            have := (Array.getElem?_eq_some_iff.1 ho).1
            simp at this; omega
          have h3 := last_ready hn hl hi x hxn
          rw [getD_flip (by rw [m.size']; omega), m.same x hxn, (mem_ready.1 hx).1] at h3
          cases h3
/-- The beginning: the operations but the last under S. -/
theorem wp_region_L (n : Nat) {id : Nat} {a : Act} {w : World} (hm : P.follows .mixedOrders = true) (hg : noGuards ops = true) (hn : ops.size = n + 1) (hl : lastWaits .any ops n = true) (hS : S w.drew)
    (h : S w.drew → wpAnyH P .any ops.pop (Behind P ops Q n) S n (Array.replicate n false) a w.drew) : (Code.region id ops true).wp P Q a w := by
  refine wp_region_any hm ?_
  rw [hn]
  refine wpAny_behind hg hn hl n (Array.replicate n false) _ a _ ⟨by simp, by simp, fun i hi => ?_, ?_⟩ (wpAny_of_held _ _ _ _ (h hS))
  · simp [Array.getD, hi, show i < n + 1 by omega]
  · simp [Array.getD]
/-- Number i alone may come up. -/
theorem held_one {i : Nat} {o : Oper} {fuel : Nat} {listed : Array Bool} {a : Act} {w : World} (hr : Region.ready md ops listed = [i]) (ho : ops[i]? = some o)
    (h : ∀ K' : Act → World → Prop, Shut (∀ a w, S w → (S w → wpAnyH P md ops Q S fuel (listed.setIfInBounds i true) a w) → K' a w) → if Region.wanted o (yielded ops a.tmps) = true then Oper.wp P o a w K' Q else K' (a.put o.dst undef) w) :
    wpAnyH P md ops Q S (fuel + 1) listed a w :=
  wpAnyH_ready hr (by simp) (AllReadyH.cons ho h AllReadyH.nil)
/-- Behind the others: the last operation. -/
theorem behind_last {n : Nat} {o : Oper} {a : Act} {w : World} (ho : ops[n]? = some o)
    (h : ∀ K' : Act → World → Prop, Shut (∀ a w, Q .normal a w → K' a w) → if Region.wanted o (yielded ops a.tmps) = true then Oper.wp P o a w K' Q else K' (a.put o.dst undef) w) : Behind P ops Q n .normal a w :=
  wpOp_step ho (fun K' hK => h K' hK)
end
end Go.Proofs.YtgjanglonccclaaDoor
