/- Rows of tokens, cell by cell. -/
import Derived.Test.YtcdmkmbbliaefaaGreatDoorAll
namespace Go.Proofs.YtcdmkmbbliaefaaGreatDoor
open Go.RowKit
set_option linter.unusedVariables false
set_option linter.unusedSimpArgs false

/-- Element i of a row of tokens, cell by cell. -/
theorem OwnToks.cell {w : World} {base g c : Nat} {l : List TokL} (h : OwnToks w base (.slice (some ⟨g, 0, none⟩) l.length c) l) (i : Nat) (t : TokL) (ht : l[i]? = some t) (j : Nat) (hj : j < 7) : w.cell? ⟨g, i * 7 + j, none⟩ = (tokC t)[j]? := by
  have hil : i < l.length := (List.getElem?_eq_some_iff.1 ht).1
  rw [World.ownsRow.cellAt (show World.ownsRow _ _ _ _ _ _ _ from h) (i * 7 + j) (by omega)]
  unfold toksC
  have key : ∀ (l : List TokL) (i : Nat), l[i]? = some t → (l.flatMap tokC)[i * 7 + j]? = (tokC t)[j]? := by
    intro l
    induction l with
    | nil => intro i h; simp at h
    | cons a l ih =>
      intro i h
      have hlen : (tokC a).length = 7 := rfl
      cases i with
      | zero =>
        simp only [List.getElem?_cons_zero, Option.some.injEq] at h
        subst h
        rw [List.flatMap_cons, List.getElem?_append_left (by rw [hlen]; omega)]
        simp
      | succ i =>
        rw [List.flatMap_cons, List.getElem?_append_right (by rw [hlen]; omega), hlen, show (i + 1) * 7 + j - 7 = i * 7 + j from by omega]
        exact ih i (by simpa using h)
  exact key l i ht
theorem OwnToks.shape {w : World} {base : Nat} {v : Value} {l : List TokL} (h : OwnToks w base v l) (hl : 0 < l.length) : ∃ g c, v = .slice (some ⟨g, 0, none⟩) l.length c ∧ base ≤ g ∧ g < w.heap.size := by
  rcases h.2 with ⟨_, h0⟩ | ⟨g, cap, cur, rfl, hb, hg, _⟩
  · omega
  · exact ⟨g, cap, rfl, hb, Blk.lt (cs := cur) (t := 38) hg⟩

end Go.Proofs.YtcdmkmbbliaefaaGreatDoor
