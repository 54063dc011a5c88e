/- The plain law of SimplifyCancels: the inverse of the inverse; equality. No program in sight. -/
import Derived.Test.YtgjanglonccclaaDoorInvP2
import Derived.Test.YtgjanglonccclaaDoorInvP3
import Derived.Test.YtgjanglonccclaaDoorEqP
import Derived.Test.YtgjanglonccclaaDoorSimP
namespace Go.Proofs.YtgjanglonccclaaDoor
open Go.RowKit
set_option linter.unusedVariables false
set_option linter.unusedSimpArgs false

theorem eqsB_iff {as : List Node} (ih : ∀ a ∈ as, ∀ b, a.eqB b = true → a = b) : ∀ bs, eqsB as bs = true → as = bs := by
  induction as with
  | nil => intro bs h; cases bs with
    | nil => rfl
    | cons => simp [eqsB] at h
  | cons a as ih2 => intro bs h; cases bs with
    | nil => simp [eqsB] at h
    | cons b bs =>
      simp only [eqsB, Bool.and_eq_true] at h
      rw [ih a (by simp) b h.1, ih2 (fun a ha => ih a (by simp [ha])) bs h.2]
theorem toList_data (s : ByteArray) : s.toList = s.data.toList := by
  have key : ∀ (n i : Nat) (r : List UInt8), s.size - i = n → i ≤ s.size → ByteArray.toList.loop s i r = r.reverse ++ s.data.toList.drop i := by
    intro n
    induction n with
    | zero =>
      intro i r h0 h1
      have : i = s.size := by omega
      subst this
      unfold ByteArray.toList.loop
      have : s.data.toList.drop s.size = [] := List.drop_eq_nil_of_le (by simp)
      simp [this]
    | succ n ih =>
      intro i r h0 h1
      have hlt : i < s.size := by omega
      unfold ByteArray.toList.loop
      rw [if_pos hlt, ih (i + 1) _ (by omega) (by omega)]
      have h2 : i < s.data.toList.length := by simpa using hlt
      rw [List.drop_eq_getElem_cons h2]
      have e : s.get! i = s.data.toList[i] := by
        show s.data[i]! = _
        rw [getElem!_pos s.data i (by simpa using hlt)]; simp
      simp [e]
  have := key s.size 0 [] (by omega) (by omega)
  simpa [ByteArray.toList] using this
theorem strB_eq {s t : ByteArray} (h : strB s t = true) : s = t := by
  have h : s.toList = t.toList := by simpa [strB] using h
  rw [toList_data, toList_data] at h
  exact ByteArray.ext (Array.toList_inj.1 h)
theorem eqB_eq (a : Node) : ∀ b, a.eqB b = true → a = b := by
  induction a using Node.ind with
  | h a ih =>
    intro b h
    rw [Node.eqB_eq] at h
    simp only [Bool.and_eq_true, beq_iff_eq] at h
    have hk := eqsB_iff ih b.kids h.2.2.2
    rw [← Node.eta a, ← Node.eta b, h.1, h.2.1, strB_eq h.2.2.1, hk]
theorem eqsB_refl {as : List Node} (ih : ∀ a ∈ as, a.eqB a = true) : eqsB as as = true := by
  induction as with
  | nil => rfl
  | cons a as ih2 => simp only [eqsB]; rw [ih a (by simp), ih2 (fun a ha => ih a (by simp [ha]))]; rfl
theorem eqB_refl (a : Node) : a.eqB a = true := by
  induction a using Node.ind with
  | h a ih => rw [Node.eqB_eq, eqsB_refl ih]; simp [strB]
theorem swapEnds_map (f : Node → Node) (l : List Node) : swapEnds (l.map f) = (swapEnds l).map f := by
  rcases l with _ | ⟨a, _ | ⟨b, _ | ⟨c, _ | ⟨d, _ | ⟨e, r⟩⟩⟩⟩⟩ <;> rfl
theorem swapEnds_swapEnds (l : List Node) : swapEnds (swapEnds l) = l := by
  rcases l with _ | ⟨a, _ | ⟨b, _ | ⟨c, _ | ⟨d, _ | ⟨e, r⟩⟩⟩⟩⟩ <;> rfl
theorem invB_kind (t : Node) : ((invB t).kind == 57) = (t.kind == 57) := by
  unfold invB
  cases h : (t.kind == 57)
  · simp [h]
  · have e : t.kind = 57 := by simpa using h
    simp only [if_true, Node.inv_kind, e]
    decide
theorem inv_inv (t : Node) : t.inv.inv = t := by
  induction t using Node.ind with
  | h t ih =>
    have hB : ∀ k ∈ t.kids, invB (invB k) = k := by
      intro k hk
      unfold invB
      cases h : (k.kind == 57)
      · simp [h]
      · have e : k.kind = 57 := by simpa using h
        simp only [if_true, Node.inv_kind, e]
        have : (invKind 57 == 57) = true := by decide
        rw [this]
        exact ih k hk
    have hmB : (t.kids.map invB).map invB = t.kids := by
      rw [List.map_map]
      conv => rhs; rw [← List.map_id t.kids]
      exact List.map_congr_left (fun k hk => hB k hk)
    have hmI : (t.kids.map Node.inv).map Node.inv = t.kids := by
      rw [List.map_map]
      conv => rhs; rw [← List.map_id t.kids]
      exact List.map_congr_left (fun k hk => ih k hk)
    have fx : ∀ m : Int, (m = 52 ∨ m = 53 ∨ m = 54 ∨ m = 57) → (invKind t.kind == m) = (t.kind == m) := by
      intro m hm
      cases h : (t.kind == m)
      · rw [beq_eq_false_iff_ne] at h ⊢
        exact fun e => h (invKind_back _ _ hm e)
      · have e : t.kind = m := by simpa using h
        rw [e, invKind_fixed m hm]; simp
    rw [Node.inv_eq t.inv, Node.inv_kind, Node.inv_num, Node.inv_name, invKind_invKind]
    have e := Node.inv_eq t
    have hk : t.inv.kids = if t.kind == 57 then (invAll t.kids).reverse else if t.kind == 52 || (t.kind == 53 || t.kind == 54) then swapEnds (invBlocks t.kids) else invBlocks t.kids := by rw [e]
    rw [hk, fx 57 (by omega), fx 52 (by omega), fx 53 (by omega), fx 54 (by omega)]
    conv => rhs; rw [← Node.eta t]
    congr 1
    cases h57 : (t.kind == 57)
    · cases hsw : (t.kind == 52 || (t.kind == 53 || t.kind == 54))
      · simp only [invBlocks_map, hmB, if_false, Bool.false_eq_true]
      · simp only [invBlocks_map, if_true, if_false, Bool.false_eq_true]
        rw [← swapEnds_map, swapEnds_swapEnds, hmB]
    · simp only [invAll_map, if_true, List.map_reverse, List.reverse_reverse, hmI]
theorem inv_eqB_sym (a b : Node) : b.inv.eqB a = a.inv.eqB b := by
  cases h : a.inv.eqB b
  · cases h2 : b.inv.eqB a
    · rfl
    · have := eqB_eq _ _ h2
      rw [← this, inv_inv, eqB_refl] at h
      cases h
  · have := eqB_eq _ _ h
    rw [← this, inv_inv, eqB_refl]
theorem cancelsB_sym (a b : Node) : cancelsB b a = cancelsB a b := by
  unfold cancelsB
  rw [inv_eqB_sym a b]
  cases h : a.inv.eqB b
  · simp
  · have e := eqB_eq _ _ h
    have hk : (b.kind == 56) = (a.kind == 56) := by
      rw [← e, Node.inv_kind]
      cases h2 : (a.kind == 56)
      · rw [beq_eq_false_iff_ne] at h2 ⊢
        intro e2
        have := invKind_invKind a.kind
        rw [e2] at this
        exact h2 (by rw [← this]; decide)
      · have e2 : a.kind = 56 := by simpa using h2
        rw [e2]; decide
    rw [hk]
    cases a.isStmt <;> cases b.isStmt <;> simp
end Go.Proofs.YtgjanglonccclaaDoor
