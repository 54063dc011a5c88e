/- append onto an empty slice that was made for it, as growth alone; rows of declarations and of procedures. -/
import Derived.Test.YtgjanglonccclaaDoorPrgB
import Derived.ArgAppend
import Derived.Test.YtgjanglonccclaaDoorBB
namespace Go.Proofs.YtgjanglonccclaaDoor
open Go.RowKit
set_option linter.unusedVariables false
set_option linter.unusedSimpArgs false

theorem run_append_zero {w : World} (t ty e : TypeId) (i : TypeInfo) (ht : Tryd.prog.underlying t = some (.slice e)) (hi : Tryd.prog.info? e = some i) (b : Addr) (A : Option Addr) (c : Nat) :
    (Builtin.append_ #[t, t] ty #[.slice (some b) 0 0, .slice A 0 c]).run Tryd.prog w = .ok (.slice (some b) 0 0) w := by
  simp [Builtin.append_, run_underlying ht, sizeOf, typeInfo, hi, Builtin.lenOf, Builtin.firstCells, storeCells, loadCells, loadCellsFrom]
  cases A <;> simp [loadCells, loadCellsFrom, storeCells]
/-- append of a whole slice that came in onto an empty one: what was there stands. -/
theorem step_append_new {w : World} {ops : Array Oper} {o : Oper} {a : Act} {K : Act → World → Prop} {Q : Exit → Act → World → Prop} {E : Prop} (hgd : o.guard = none) (s x : Operand) (t : TypeId)
    (ho : o.op = .call { callee := .builtin .append, args := #[s, x], argTypes := #[t, t] })
    (e : TypeId) (i : TypeInfo) (z : Value) (size bytes : Nat) (ht : Tryd.prog.underlying t = some (.slice e)) (hi : Tryd.prog.info? e = some i) (hz : i.zero = some z)
    (hsize : i.size = size) (hby : i.bytes = bytes) (hzs : z.cells.size = size) (hsz : 0 < size)
    (b : Addr) (A : Option Addr) (m c : Nat) (news : List Value) (hs : a.eval s = .slice (some b) 0 0) (hx : a.eval x = .slice A m c) (hl : news.length = m * size) (hnews : Cells w (fun _ => True) A news)
    (h63 : m ≤ maxLen) (hbytes : m * bytes ≤ 140737488355328)
    (h : ∀ A' c' w', Below w.heap.size w w' → m ≤ c' → Cells w' (fun b => w.heap.size ≤ b) A' news → K (a.put o.dst (.slice A' m c')) w') :
    if Region.wanted o (yielded ops a.tmps) = true then Oper.wp Tryd.prog o a w K Q else E := by
  have hw : Region.wanted o (yielded ops a.tmps) = true := by simp [Region.wanted, hgd]
  rw [if_pos hw]
  have key : ∃ A' c' w', (Builtin.append_ #[t, t] o.type #[.slice (some b) 0 0, .slice A m c]).run Tryd.prog w = .ok (.slice A' m c') w' ∧ Below w.heap.size w w' ∧ m ≤ c' ∧ Cells w' (fun b => w.heap.size ≤ b) A' news := by
    rcases hnews with h0 | ⟨b1, o1, rfl, _, hc⟩
    · have hm : m = 0 := by
        rw [h0] at hl
        rcases Nat.eq_zero_or_pos m with h | h
        · exact h
        · have := Nat.mul_pos h hsz; simp at hl; omega
      subst hm
      exact ⟨some b, 0, w, run_append_zero t o.type e i ht hi b A c, Below.refl _ _, Nat.le_refl _, .inl h0⟩
    · by_cases hm : m = 0
      · subst hm
        have h0 : news = [] := List.length_eq_zero_iff.1 (by omega)
        exact ⟨some b, 0, w, run_append_zero t o.type e i ht hi b _ c, Below.refl _ _, Nat.le_refl _, .inl h0⟩
      · obtain ⟨v', w', hr, hown, hgr⟩ := run_append_arg_grows (P := Tryd.prog) w t o.type e i z size bytes ht hi hz hsize hby hzs hsz b 0 0 [] (by simp) (fun j u hu => by simp at hu) ⟨b1, o1, none⟩ m c news hl
          (fun j u hu => by
            have := hc j u hu
            have e2 : (⟨b1, o1, none⟩ : Addr).add j = ⟨b1, o1 + j, none⟩ := by unfold Addr.add; split <;> simp_all
            rw [e2]; exact this) (by omega) (by omega) (by simpa using hbytes)
        rw [Nat.zero_add, List.nil_append] at hown
        obtain ⟨g, cap, hv, hgb, hcap⟩ := hown.form (by omega)
        subst hv
        have hgs := hgr.size
        refine ⟨_, _, w', hr, ⟨hgr.os, hgr.tape, hgr.output, hgs, fun k hk => hgr.block k hk (by simp)⟩, by first | exact row_cap hown | omega, .inr ⟨g, 0, rfl, ?_, fun j u hu => ?_⟩⟩
        · exact (hown.lt g rfl).1
        · rw [Nat.zero_add]
          have hj := (List.getElem?_eq_some_iff.1 hu).1
          rw [hown.cellAt j (by rw [← hl]; exact hj)]; exact hu
  obtain ⟨A', c', w', hr, hb, hc, hcs⟩ := key
  unfold Oper.wp execOp
  simp only [ho, resolve, invoke, builtin, Sem.run_bind, Sem.run_pure, Result.andThen_ok, List.map_toArray, List.map_cons, List.map_nil, hs, hx, hr]
  exact h A' c' w' hb hc hcs
end Go.Proofs.YtgjanglonccclaaDoor
