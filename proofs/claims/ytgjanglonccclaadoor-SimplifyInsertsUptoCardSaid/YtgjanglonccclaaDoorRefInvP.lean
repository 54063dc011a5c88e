/- Rows of nodes that can be read, as they grow; append of a slice that came in. -/
import Derived.Test.YtgjanglonccclaaDoorRefK
import Derived.Test.YtgjanglonccclaaDoorClone
import Derived.Test.YtgjanglonccclaaDoorBoxes
namespace Go.Proofs.YtgjanglonccclaaDoor
open Go.RowKit
set_option linter.unusedVariables false
set_option linter.unusedSimpArgs false

theorem run_append_none {w : World} (base : Nat) (t ty e : TypeId) (i : TypeInfo) (size : Nat) (ht : Tryd.prog.underlying t = some (.slice e)) (hi : Tryd.prog.info? e = some i)
    (v : Value) (n : Nat) (xs : List Value) (hown : w.ownsRow base e size v n xs) (c : Nat) :
    (Builtin.append_ #[t, t] ty #[v, .slice none 0 c]).run Tryd.prog w = .ok v w := by
  rcases hown.2 with ⟨rfl, rfl⟩ | ⟨g, cap, cur, rfl, _, _, hnc, _⟩
  · simp [Builtin.append_, run_underlying ht, sizeOf, typeInfo, hi, Builtin.lenOf, Builtin.firstCells]
  · simp [Builtin.append_, run_underlying ht, sizeOf, typeInfo, hi, Builtin.lenOf, Builtin.firstCells, hnc, storeCells]

/-- A value that owns a row, written as a slice. -/
theorem row_slice {w : World} {base : Nat} {e : TypeId} {size : Nat} {v : Value} {n : Nat} {xs : List Value} (h : w.ownsRow base e size v n xs) : ∃ A c, v = .slice A n c ∧ n ≤ c := by
  rcases h.2 with ⟨h0, h1⟩ | ⟨g, cap, cur, hv, _, _, h3, _⟩
  · exact ⟨none, 0, by rw [h0, h1], by omega⟩
  · exact ⟨some ⟨g, 0, none⟩, cap, hv, h3⟩

/-- append of a whole slice that came in, whatever it is, at a step of a region that draws. -/
theorem step_append_src {w : World} {ops : Array Oper} {o : Oper} {a : Act} {K : Act → World → Prop} {Q : Exit → Act → World → Prop} {E : Prop} (hgd : o.guard = none) (s x : Operand) (t : TypeId)
    (ho : o.op = .call { callee := .builtin .append, args := #[s, x], argTypes := #[t, t] })
    (base : Nat) (e : TypeId) (i : TypeInfo) (z : Value) (size bytes : Nat) (ht : Tryd.prog.underlying t = some (.slice e)) (hi : Tryd.prog.info? e = some i) (hz : i.zero = some z)
    (hsize : i.size = size) (hby : i.bytes = bytes) (hzs : z.cells.size = size) (hsz : 0 < size)
    (v : Value) (n : Nat) (xs : List Value) (hs : a.eval s = v) (hown : w.ownsRow base e size v n xs)
    (A : Option Addr) (m c : Nat) (news : List Value) (hx : a.eval x = .slice A m c) (hl : news.length = m * size) (hnone : A = none → m = 0) (hnews : ∀ ad, A = some ad → ∀ j u, news[j]? = some u → w.cell? (ad.add j) = some u) (h1 : ∀ u ∈ news, u.oneCell' = true)
    (h63 : n + m ≤ maxLen) (hbytes : (n + m) * bytes ≤ 140737488355328) (hbase : base ≤ w.heap.size)
    (h : ∀ A' c' w', w'.ownsRow base e size (.slice A' (n + m) c') (n + m) (xs ++ news) → w.grownBy w' v.ownBlock → ((Value.slice A' (n + m) c').ownBlock = v.ownBlock ∨ (Value.slice A' (n + m) c').ownBlock = some w.heap.size) → K (a.put o.dst (.slice A' (n + m) c')) w') :
    if Region.wanted o (yielded ops a.tmps) = true then Oper.wp Tryd.prog o a w K Q else E := by
  have hw : Region.wanted o (yielded ops a.tmps) = true := by simp [Region.wanted, hgd]
  rw [if_pos hw]
  have key : ∃ v' w', (Builtin.append_ #[t, t] o.type #[v, .slice A m c]).run Tryd.prog w = .ok v' w' ∧ w'.ownsRow base e size v' (n + m) (xs ++ news) ∧ w.grownBy w' v.ownBlock ∧ (v'.ownBlock = v.ownBlock ∨ v'.ownBlock = some w.heap.size) := by
    cases A with
    | none =>
      obtain rfl := hnone rfl
      have hn : news = [] := List.length_eq_zero_iff.1 (by omega)
      subst hn
      exact ⟨v, w, run_append_none base t o.type e i size ht hi v n xs hown c, by simpa using hown, ⟨rfl, rfl, rfl, Nat.le_refl _, fun _ _ _ => rfl⟩, .inl rfl⟩
    | some ad =>
      obtain ⟨v', w', hr, h2, h3, _, h5⟩ := run_append_own_at (P := Tryd.prog) w base t o.type e i z size bytes ht hi hz hsize hby hzs hsz v n xs hown ad m c news hl (hnews ad rfl) h1 h63 hbytes hbase
      exact ⟨v', w', hr, h2, h3, h5⟩
  obtain ⟨v', w', hr, h2, h3, h5⟩ := key
  obtain ⟨A', c', rfl, _⟩ := row_slice h2
  unfold Oper.wp execOp
  simp only [ho, resolve, invoke, builtin, Sem.run_bind, Sem.run_pure, Result.andThen_ok, List.map_toArray, List.map_cons, List.map_nil, hs, hx, hr]
  exact h A' c' w' h2 h3 h5

/-- The cells of a row that can be read. -/
theorem Node.In.raw {w : World} {ok : Nat → Prop} {t : Node} {A : Option Addr} {c : Nat} (h : t.In w ok A c) :
    ∃ hs : List Hdr, t.kids.length = hs.length ∧ (A = none → t.kids.length = 0) ∧ (∀ ad, A = some ad → ∀ j u, (valsAll t.kids hs)[j]? = some u → w.cell? (ad.add j) = some u) ∧
      ∀ j (h1 : j < t.kids.length) (h2 : j < hs.length), (t.kids[j]).In w ok hs[j].A hs[j].c := by
  by_cases hk : t.kids.length = 0
  · have hk2 : t.kids = [] := List.length_eq_zero_iff.1 hk
    refine ⟨[], by rw [hk]; rfl, fun _ => hk, fun ad _ j u hu => ?_, fun j h1 => by omega⟩
    rw [hk2] at hu; simp [valsAll] at hu
  · have ha : ∀ j (hj : j < t.kids.length), ∃ hd : Hdr, ∃ b o, A = some ⟨b, o, none⟩ ∧ w.cell? ⟨b, o + j * 4, none⟩ = some (.int .u8 t.kids[j].kind) ∧ w.cell? ⟨b, o + j * 4 + 1, none⟩ = some (.int .i64 t.kids[j].num) ∧
        w.cell? ⟨b, o + j * 4 + 2, none⟩ = some (.string t.kids[j].name) ∧ w.cell? ⟨b, o + j * 4 + 3, none⟩ = some (.slice hd.A t.kids[j].kids.length hd.c) ∧ t.kids[j].In w ok hd.A hd.c := fun j hj => by
      obtain ⟨b, o, A1, c1, h0, h1, h2, h3, h4, h5⟩ := h.at_ j hj
      exact ⟨⟨A1, c1, fun _ => True⟩, b, o, h0, h1, h2, h3, h4, h5⟩
    have hd : Nonempty Hdr := ⟨⟨none, 0, fun _ => True⟩⟩
    have ha2 : ∀ j : Nat, ∃ hd : Hdr, ∀ (hj : j < t.kids.length), ∃ b o, A = some ⟨b, o, none⟩ ∧ w.cell? ⟨b, o + j * 4, none⟩ = some (.int .u8 t.kids[j].kind) ∧ w.cell? ⟨b, o + j * 4 + 1, none⟩ = some (.int .i64 t.kids[j].num) ∧
        w.cell? ⟨b, o + j * 4 + 2, none⟩ = some (.string t.kids[j].name) ∧ w.cell? ⟨b, o + j * 4 + 3, none⟩ = some (.slice hd.A t.kids[j].kids.length hd.c) ∧ t.kids[j].In w ok hd.A hd.c := fun j => by
      by_cases hj : j < t.kids.length
      · obtain ⟨x, hx⟩ := ha j hj
        exact ⟨x, fun _ => hx⟩
      · exact ⟨⟨none, 0, fun _ => True⟩, fun h => absurd h hj⟩
    obtain ⟨f, hf⟩ := Classical.axiomOfChoice ha2
    have hlen : t.kids.length = ((List.range t.kids.length).map f).length := by simp
    refine ⟨(List.range t.kids.length).map f, hlen, fun h0 => ?_, fun ad had j u hu => ?_, fun j h1 h2 => ?_⟩
    · obtain ⟨b, o, h1, _⟩ := hf 0 (by omega)
      rw [h0] at h1; cases h1
    · have hjl : j < t.kids.length * 4 := by
        rw [← valsAll_length hlen]
        exact (List.getElem?_eq_some_iff.1 hu).1
      have hd4 : j / 4 < t.kids.length := by omega
      have hm4 : j % 4 < 4 := Nat.mod_lt _ (by omega)
      have hj : j = j / 4 * 4 + j % 4 := by omega
      obtain ⟨b, o, h0, e0, e1, e2, e3, _⟩ := hf (j / 4) hd4
      rw [h0] at had
      injection had with had
      subst had
      rw [hj, valsAll_at (j / 4) (j % 4) hd4 (by rw [← hlen]; exact hd4) hm4] at hu
      have hadd : (⟨b, o, none⟩ : Addr).add j = ⟨b, o + j / 4 * 4 + j % 4, none⟩ := by
        unfold Addr.add
        split <;> simp <;> omega
      rw [hadd]
      rcases (show j % 4 = 0 ∨ j % 4 = 1 ∨ j % 4 = 2 ∨ j % 4 = 3 by omega) with h | h | h | h <;> rw [h] at hu ⊢ <;> simp [Node.vals] at hu <;> subst hu <;> simp [e0, e1, e2, e3]
    · obtain ⟨b, o, _, _, _, _, _, e⟩ := hf j h1
      simpa using e
end Go.Proofs.YtgjanglonccclaaDoor
