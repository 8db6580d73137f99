/- Comments, read: what package note's Read answers, in plain words (Pas). -/
import Derived.Test.YtcdmkmbbliaefaaGreatDoorBase
namespace Go.Proofs.YtcdmkmbbliaefaaGreatDoor
set_option linter.unusedVariables false

def rightB (c : UInt8) : Bool := c == 9 || c == 10 || (decide (32 ≤ c.toNat) && decide (c.toNat ≤ 126))
/-- From a place on: the text, how many bytes were read, the error. -/
def noteGo : Bs → Bs → Nat → Bs × Nat × Nat
  | [], _, _ => ([], 0, 8)
  | c :: l, out, i =>
    if c = 125 then (out, i + 1, 0)
    else if c = 92 then
      match l with
      | [] => ([], 0, 8)
      | d :: l' => if d = 92 ∨ d = 125 then (if out.length = 1024 then ([], 0, 3) else noteGo l' (out ++ [d]) (i + 2)) else ([], 0, 8)
    else if rightB c = true then (if out.length = 1024 then ([], 0, 3) else noteGo l (out ++ [c]) (i + 1)) else ([], 0, 8)
def noteBegins (l : Bs) : Bool := l.head? == some 123
def noteRead (l : Bs) : Bs × Nat × Nat := if noteBegins l = true then noteGo (l.drop 1) [] 1 else ([], 0, 8)

section
variable (l : Bs) (out : Bs) (i : Nat) (c d : UInt8)
theorem noteGo_nil : noteGo [] out i = ([], 0, 8) := by rw [noteGo]
theorem noteGo_end : noteGo (125 :: l) out i = (out, i + 1, 0) := by rw [noteGo.eq_def]; simp
theorem noteGo_bs0 : noteGo [92] out i = ([], 0, 8) := by rw [noteGo.eq_def]; simp
theorem noteGo_bs_bad (h : ¬ (d = 92 ∨ d = 125)) : noteGo (92 :: d :: l) out i = ([], 0, 8) := by rw [noteGo.eq_def]; simp [h]
theorem noteGo_bs_full (h : d = 92 ∨ d = 125) (ho : out.length = 1024) : noteGo (92 :: d :: l) out i = ([], 0, 3) := by rw [noteGo.eq_def]; simp [h, ho]
theorem noteGo_bs (h : d = 92 ∨ d = 125) (ho : out.length ≠ 1024) : noteGo (92 :: d :: l) out i = noteGo l (out ++ [d]) (i + 2) := by rw [noteGo.eq_def]; simp [h, ho]
theorem noteGo_bad (h1 : c ≠ 125) (h2 : c ≠ 92) (h : rightB c = false) : noteGo (c :: l) out i = ([], 0, 8) := by rw [noteGo.eq_def]; simp [h, h1, h2]
theorem noteGo_full (h1 : c ≠ 125) (h2 : c ≠ 92) (h : rightB c = true) (ho : out.length = 1024) : noteGo (c :: l) out i = ([], 0, 3) := by rw [noteGo.eq_def]; simp [h, h1, h2, ho]
theorem noteGo_go (h1 : c ≠ 125) (h2 : c ≠ 92) (h : rightB c = true) (ho : out.length ≠ 1024) : noteGo (c :: l) out i = noteGo l (out ++ [c]) (i + 1) := by rw [noteGo.eq_def]; simp [h, h1, h2, ho]
end
theorem bs_drop (s : ByteArray) (k : Nat) (h : k < s.size) : (bs s).drop k = s[k] :: (bs s).drop (k + 1) := by
  unfold bs; rw [List.drop_eq_getElem_cons (by simpa using h)]; rfl
theorem bs_drop_end (s : ByteArray) (k : Nat) (h : s.size ≤ k) : (bs s).drop k = [] := List.drop_eq_nil_of_le (by rw [bs_len]; exact h)
theorem bs_extract (s : ByteArray) (a b : Nat) : bs (s.extract a b) = ((bs s).take b).drop a := by
  unfold bs; rw [ByteArray.data_extract, Array.toList_extract, List.extract_eq_take_drop, List.drop_take]
theorem bs_tail (s : ByteArray) (k : Nat) : bs (s.extract k s.size) = (bs s).drop k := by
  rw [bs_extract, List.take_of_length_le (by rw [bs_len]; exact Nat.le_refl _)]
end Go.Proofs.YtcdmkmbbliaefaaGreatDoor
