/- All tokens of a Pas text, in plain words. -/
import Derived.Test.YtcdmkmbbliaefaaGreatDoorTokS
namespace Go.Proofs.YtcdmkmbbliaefaaGreatDoor
open Go.RowKit
set_option linter.unusedVariables false
set_option linter.unusedSimpArgs false

abbrev Pos3 := Nat × Nat × Nat
structure LexR where
  toks : List TokL
  code : Nat
  pos : Pos3
def tokAt (s : ByteArray) (q : Nat) (last : Int) (F : Fd) : TokL := ⟨F.kind, ⟨F.text.toArray⟩, F.n, last == ((lineAt s q : Nat) : Int), posA s q⟩
def endAt (s : ByteArray) (q : Nat) (last : Int) : TokL := ⟨0, ⟨#[]⟩, 0, last == ((lineAt s q : Nat) : Int), posA s q⟩
def lexGo (s : ByteArray) : Nat → Nat → Int → List TokL → LexR
  | 0, _, _, _ => ⟨[], 0, (0, 0, 0)⟩
  | f + 1, p, last, acc =>
    if p + spanAt blankB s p < s.size then
      if (tokOf ((bs s).drop (p + spanAt blankB s p))).err = 0 then
        lexGo s f (p + spanAt blankB s p + (tokOf ((bs s).drop (p + spanAt blankB s p))).len) ((lineAt s (p + spanAt blankB s p + (tokOf ((bs s).drop (p + spanAt blankB s p))).len) : Nat) : Int) (acc ++ [tokAt s (p + spanAt blankB s p) last (tokOf ((bs s).drop (p + spanAt blankB s p)))])
      else ⟨[], (tokOf ((bs s).drop (p + spanAt blankB s p))).err, posA s (p + spanAt blankB s p)⟩
    else ⟨acc ++ [endAt s (p + spanAt blankB s p) last], 0, (0, 0, 0)⟩
def lexAll (s : ByteArray) : LexR := if 65536 < s.size then ⟨[], 3, (0, 0, 0)⟩ else lexGo s (s.size + 1) 0 (-1) []

theorem find_prefix {l g : Bs} (h : signOf pasSigns l = some g) : g.isPrefixOf l = true ∧ 0 < g.length := by
  unfold signOf at h
  have h1 := List.find?_some h
  have h2 := List.mem_of_find?_eq_some h
  refine ⟨h1, ?_⟩
  have : ∀ g ∈ pasSigns, 0 < g.length := by decide
  exact this g h2
theorem tokQuoted_len (l : Bs) (h : (tokQuoted l).err = 0) : 0 < (tokQuoted l).len ∧ (tokQuoted l).len ≤ l.length := by
  unfold tokQuoted at *
  by_cases h1 : ([39, 39, 39, 39] : Bs).isPrefixOf l = true
  · rw [if_pos h1]; exact ⟨by decide, by have := prefix_len h1; simpa using this⟩
  · rw [if_neg h1] at *
    match l, h with
    | _ :: c :: d :: r, h =>
      simp only at h ⊢
      by_cases h2 : plainB c = true ∧ d = 39
      · rw [if_pos h2]; exact ⟨by simp, by simp⟩
      · rw [if_neg h2] at h; cases h
    | [], h => cases h
    | [_], h => cases h
    | [_, _], h => cases h
theorem tokNumbered_len (l : Bs) (hl : 0 < l.length) (h : (tokNumbered l).err = 0) : 0 < (tokNumbered l).len ∧ (tokNumbered l).len ≤ l.length := by
  unfold tokNumbered at *
  by_cases h1 : spanLen digB (l.drop 1) = 0 ∨ 3 < spanLen digB (l.drop 1)
  · rw [if_pos h1] at h; cases h
  · rw [if_neg h1] at *
    have h2 := spanLen_le digB (l.drop 1)
    rw [List.length_drop] at h2
    split at h
    · rename_i n hn
      by_cases h3 : 255 < n
      · rw [if_pos h3] at h; cases h
      · show 0 < (if 255 < n then fail 7 else (⟨0, 4, [], n, 1 + spanLen digB (l.drop 1)⟩ : Fd)).len ∧ (if 255 < n then fail 7 else (⟨0, 4, [], n, 1 + spanLen digB (l.drop 1)⟩ : Fd)).len ≤ l.length
        rw [if_neg h3]
        exact ⟨by show 0 < 1 + _; omega, by show 1 + _ ≤ _; omega⟩
    · cases h
theorem span_pos (f : UInt8 → Bool) (c : UInt8) (l : Bs) (h : f c = true) : 0 < spanLen f (c :: l) := by
  unfold spanLen; rw [List.takeWhile_cons_of_pos h]; simp
theorem letter_name {c : UInt8} (h : letterB c = true) : nameB c = true := by
  unfold letterB at h; unfold nameB
  cases h1 : smallB c with
  | true => simp
  | false => rw [h1] at h; simp at h; simp [h]
theorem tokPlain_len (l : Bs) (hl : 0 < l.length) (h : (tokPlain l).err = 0) : 0 < (tokPlain l).len ∧ (tokPlain l).len ≤ l.length := by
  match l, hl with
  | c :: r, hl =>
    unfold tokPlain at *
    simp only at h ⊢
    by_cases h1 : letterB c = true
    · rw [if_pos h1] at h ⊢
      unfold tokName at *
      by_cases h2 : spanLen nameB (c :: r) ≤ 32
      · rw [if_pos h2]
        exact ⟨span_pos nameB c r (letter_name h1), spanLen_le _ _⟩
      · rw [if_neg h2] at h; cases h
    rw [if_neg h1] at h ⊢
    by_cases h2 : digB c = true
    · rw [if_pos h2] at h ⊢
      unfold tokInt at *
      split at h
      · rename_i n hn
        exact ⟨span_pos digB c r h2, spanLen_le _ _⟩
      · cases h
    rw [if_neg h2] at h ⊢
    by_cases h3 : c = 39
    · rw [if_pos h3] at h ⊢; exact tokQuoted_len _ h
    rw [if_neg h3] at h ⊢
    by_cases h4 : c = 35
    · rw [if_pos h4] at h ⊢; exact tokNumbered_len _ hl h
    rw [if_neg h4] at h ⊢
    unfold tokSign at *
    split at h
    · rename_i g hg
      have := find_prefix hg
      exact ⟨this.2, prefix_len this.1⟩
    · cases h
theorem tokOf_len (l : Bs) (hl : 0 < l.length) (h : (tokOf l).err = 0) : 0 < (tokOf l).len ∧ (tokOf l).len ≤ l.length := by
  unfold tokOf at *
  by_cases h1 : noteBegins l = true
  · rw [if_pos h1] at h ⊢
    by_cases h2 : (noteRead l).2.2 = 0
    · rw [if_pos h2]
      exact noteRead_used l (noteRead l).1 (noteRead l).2.1 (by rw [← h2])
    · rw [if_neg h2] at h; exact absurd h h2
  · rw [if_neg h1] at h ⊢
    exact tokPlain_len l hl h
end Go.Proofs.YtcdmkmbbliaefaaGreatDoor
