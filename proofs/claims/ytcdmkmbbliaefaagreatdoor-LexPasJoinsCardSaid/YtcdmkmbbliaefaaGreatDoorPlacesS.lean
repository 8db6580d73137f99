/- Where the tokens of a text stand: the plain law. -/
import Derived.Test.YtcdmkmbbliaefaaGreatDoorLexS
namespace Go.Proofs.YtcdmkmbbliaefaaGreatDoor
open Go.RowKit
set_option linter.unusedVariables false
set_option linter.unusedSimpArgs false

theorem lineAt_mono (s : ByteArray) (p q : Nat) (h : p ≤ q) : lineAt s p ≤ lineAt s q := by
  unfold lineAt lineL
  have h1 : ((bs s).take q).take p = (bs s).take p := by rw [List.take_take, Nat.min_eq_left h]
  rw [← h1]
  exact (List.take_sublist p _).count_le 10
/-- The tokens stand one behind the other, all ahead of p. -/
structure Rowed (s : ByteArray) (p : Nat) (l : List TokL) : Prop where
  all : ∀ t ∈ l, ∃ q, q ≤ s.size ∧ t.pos = posA s q ∧ q < p
  pw : l.Pairwise (fun a b => a.pos.1 < b.pos.1)
  hd : ∀ t, l.head? = some t → t.same = false
theorem Rowed.nil (s : ByteArray) (p : Nat) : Rowed s p [] := ⟨fun t h => (by cases h), List.Pairwise.nil, fun t h => (by cases h)⟩
theorem Rowed.snoc {s : ByteArray} {p q : Nat} {l : List TokL} {last : Int} (h : Rowed s p l) (hl : l = [] → last = -1) (t : TokL) (ht : t.pos = posA s q) (hs : t.same = (last == ((lineAt s q : Nat) : Int))) (hq : q ≤ s.size) (hpq : p ≤ q) (p' : Nat) (hp' : q < p') : Rowed s p' (l ++ [t]) := by
  refine ⟨?_, ?_, ?_⟩
  · intro u hu
    rcases List.mem_append.1 hu with hu | hu
    · obtain ⟨x, h1, h2, h3⟩ := h.all u hu
      exact ⟨x, h1, h2, by omega⟩
    · rw [List.mem_singleton] at hu; subst hu; exact ⟨q, hq, ht, hp'⟩
  · rw [List.pairwise_append]
    refine ⟨h.pw, List.pairwise_singleton _ _, ?_⟩
    intro a ha b hb
    rw [List.mem_singleton] at hb; subst hb
    obtain ⟨x, h1, h2, h3⟩ := h.all a ha
    rw [h2, ht]
    show x < q
    omega
  · intro u hu
    cases l with
    | nil =>
      simp at hu
      subst hu
      rw [hs, hl rfl, beq_eq_false_iff_ne]; omega
    | cons a r =>
      simp at hu
      subst hu
      exact h.hd a rfl
structure Places (s : ByteArray) (R : LexR) : Prop where
  bad : R.code ≠ 0 → R.toks = [] ∧ ∃ q, q ≤ s.size ∧ R.pos = posA s q
  good : R.code = 0 → Rowed s (s.size + 1) R.toks ∧ ∃ i e, R.toks = i ++ [e] ∧ e.kind = 0 ∧ e.pos.1 = s.size
theorem lexGo_places (s : ByteArray) : ∀ (f p : Nat) (last : Int) (acc : List TokL), p ≤ s.size → s.size - p < f → Rowed s p acc → (acc = [] → last = -1) → Places s (lexGo s f p last acc)
  | 0, _, _, _, _, hf, _, _ => by omega
  | f + 1, p, last, acc, hp, hf, hr, hl => by
    unfold lexGo
    have hle := spanAt_le blankB s p hp
    by_cases h1 : p + spanAt blankB s p < s.size
    · rw [if_pos h1]
      by_cases h2 : (tokOf ((bs s).drop (p + spanAt blankB s p))).err = 0
      · rw [if_pos h2]
        have hln : ((bs s).drop (p + spanAt blankB s p)).length = s.size - (p + spanAt blankB s p) := by rw [List.length_drop, bs_len]
        obtain ⟨l1, l2⟩ := tokOf_len _ (by rw [hln]; omega) h2
        rw [hln] at l2
        refine lexGo_places s f _ _ _ (by omega) (by omega) (hr.snoc hl _ rfl rfl (by omega) (by omega) _ (by omega)) (fun h => by simp at h)
      · rw [if_neg h2]
        exact ⟨fun _ => ⟨rfl, _, hle, rfl⟩, fun h => absurd h h2⟩
    · rw [if_neg h1]
      have hq : p + spanAt blankB s p = s.size := by omega
      rw [hq]
      exact ⟨fun h => absurd rfl h, fun _ => ⟨hr.snoc hl (endAt s s.size last) rfl rfl (Nat.le_refl _) hp _ (by omega), acc, endAt s s.size last, rfl, rfl, rfl⟩⟩
theorem lexAll_places (s : ByteArray) (hs : s.size ≤ 65536) : Places s (lexAll s) := by
  unfold lexAll
  rw [if_neg (by omega)]
  exact lexGo_places s _ _ _ _ (Nat.zero_le _) (by omega) (Rowed.nil _ _) (fun _ => rfl)
theorem Rowed.at_ {s : ByteArray} {p : Nat} {l : List TokL} (h : Rowed s p l) (i : Nat) (t : TokL) (ht : l[i]? = some t) : ∃ q, q ≤ s.size ∧ t.pos = (q, lineAt s q, colAt s q) := by
  obtain ⟨q, h1, h2, _⟩ := h.all t (List.mem_of_getElem? ht)
  exact ⟨q, h1, h2⟩
theorem Rowed.step {s : ByteArray} {p : Nat} {l : List TokL} (h : Rowed s p l) (i : Nat) (a b : TokL) (ha : l[i]? = some a) (hb : l[i + 1]? = some b) : a.pos.1 < b.pos.1 ∧ a.pos.2.1 ≤ b.pos.2.1 := by
  have hi : i + 1 < l.length := (List.getElem?_eq_some_iff.1 hb).1
  have h1 := List.pairwise_iff_getElem.1 h.pw i (i + 1) (by omega) hi (by omega)
  rw [List.getElem?_eq_getElem (by omega)] at ha
  rw [List.getElem?_eq_getElem hi] at hb
  injection ha with ha
  injection hb with hb
  rw [ha, hb] at h1
  obtain ⟨x, _, h3, _⟩ := h.all a (by rw [← ha]; exact List.getElem_mem _)
  obtain ⟨y, _, h5, _⟩ := h.all b (by rw [← hb]; exact List.getElem_mem _)
  rw [h3, h5] at h1
  rw [h3, h5]
  exact ⟨h1, lineAt_mono s x y (Nat.le_of_lt h1)⟩
end Go.Proofs.YtcdmkmbbliaefaaGreatDoor
