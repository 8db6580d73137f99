/- Package text: Number, of digits. -/
import Derived.Test.YtcdmkmbbliaefaaGreatDoorLib
import Derived.Test.YtcdmkmbbliaefaaGreatDoorNoteS
namespace Go.Proofs.YtcdmkmbbliaefaaGreatDoor
open Go.RowKit
set_option linter.unusedVariables false
set_option linter.unusedSimpArgs false

def digB (c : UInt8) : Bool := decide (48 ≤ c.toNat) && decide (c.toNat ≤ 57)
/-- The number of digits, n being that of those ahead; none: it is above 2^63 - 1. -/
def numGo : Nat → Bs → Option Nat
  | n, [] => some n
  | n, c :: l => if 9223372036854775807 < 10 * n + (c.toNat - 48) then none else numGo (10 * n + (c.toNat - 48)) l
def numRes (r : Option Nat) : Int × Int := match r with | some n => ((n : Int), 0) | none => (0, 6)
def maxI : Int := 9223372036854775807
theorem over_test (n d : Nat) (hd : d ≤ 9) : decide ((9223372036854775807 - (d : Int)) / 10 < (n : Int)) = decide (9223372036854775807 < 10 * n + d) := by
  rw [Bool.eq_iff_iff]; simp only [decide_eq_true_eq]; omega
def tenSet : ByteArray := ⟨#[48, 49, 50, 51, 52, 53, 54, 55, 56, 57]⟩
theorem ten_ascii : ∀ (j : Nat) b, tenSet.data.toList[j]? = some b → b.toNat < 128 := by
  have h : tenSet.data.toList.all (fun b => decide (b.toNat < 128)) = true := by decide
  intro j b hj
  have := List.all_eq_true.1 h b (List.mem_of_getElem? hj)
  simpa using this
set_option maxRecDepth 100000 in
theorem ten_has (c : UInt8) : (bs tenSet).contains c = digB c := by
  have h : ∀ k : Fin 256, (bs tenSet).contains (UInt8.ofNat k.val) = digB (UInt8.ofNat k.val) := by decide
  have := h ⟨c.toNat, c.toNat_lt⟩
  simpa using this
theorem trim_digits (l : Bs) (h : ∀ c ∈ l, digB c = true) : Lib.trimS l (bs tenSet) = [] := by
  have h1 : ∀ m : Bs, (∀ c ∈ m, digB c = true) → m.dropWhile ((bs tenSet).contains ·) = [] := by
    intro m
    induction m with
    | nil => intro _; rfl
    | cons a m ih =>
      intro hm
      rw [List.dropWhile_cons_of_pos (by rw [ten_has]; exact hm a (by simp))]
      exact ih fun c hc => hm c (by simp [hc])
  unfold Lib.trimS Lib.trimRightS Lib.trimLeftS
  rw [h1 l.reverse (fun c hc => h c (by simpa using hc))]
  rfl

set_option maxRecDepth 100000 in
set_option maxHeartbeats 1000000 in
theorem number_any (s : ByteArray) (w : World) (hs : s.size ≤ 140737488351232) (hne : 0 < s.size) (hd : ∀ c ∈ bs s, digB c = true) :
    Calls Tryz.prog 54 #[.string s] w fun e w' => e = .returned (.tuple #[.int .i64 (numRes (numGo 0 (bs s))).1, .int .i64 (numRes (numGo 0 (bs s))).2]) ∧ Keep (fun _ => False) w w' := by
  obtain ⟨R, hR⟩ : ∃ R, R = numGo 0 (bs s) := ⟨_, rfl⟩
  rw [← hR]
  have HR := Lib.hid hR; clear hR
  have hT : Calls Tryz.prog 72 #[.string s, .string ⟨#[48, 49, 50, 51, 52, 53, 54, 55, 56, 57]⟩] w fun e w' => e = .returned (.string ⟨#[]⟩) ∧ Below w.heap.size w w' := by
    have h1 := trim_set s tenSet w (by omega) (by decide) ten_ascii
    have h2 : Lib.trimS s.data.toList tenSet.data.toList = [] := trim_digits (bs s) hd
    rw [h2] at h1
    exact h1
  have HT := Lib.hid hT
  have HD := Lib.hid hd
  clear hT hd
  have e1 : s.toList = [] ↔ False := by
    constructor
    · intro h; have h1 := congrArg List.length h; rw [ByteArray.toList_eq] at h1; have h2 := bs_len s; unfold bs at h2; simp only [List.length_nil] at h1; omega
    · exact False.elim
  have e1' : (s.toList == []) = false := by rw [beq_eq_false_iff_ne]; exact fun h => e1.1 h
  have e2 : s.toList.isEmpty = false := by
    cases h : s.toList with
    | nil => exact absurd h (fun h => e1.1 h)
    | cons a l => rfl
  go_enter Tryz.func54, Tryz.ntmps54
  go_wp2_with fail
  refine HT.out.mono ?_
  rintro e w1 ⟨rfl, hk1⟩
  have HK := Lib.hid (Keep.of_below (P := fun _ => False) hk1)
  clear hk1 HT
  go_wp2_with fail
  go_loop [4, 16] (fun n i => ∃ (k m : Nat), k ≤ s.size ∧ m ≤ 9223372036854775807 ∧ i = .int .i64 k ∧ n = .int .i64 m ∧ Hid (numGo m ((bs s).drop k) = R)) (fun _ i => s.size - (intOf i).toNat)
  case atStart => exact ⟨0, 0, Nat.zero_le _, by decide, rfl, rfl, HR.out.symm⟩
  case round =>
    obtain ⟨k, m, hk, hm, rfl, rfl, HG⟩ := hrel
    by_cases hlt : k < s.size
    · have hd1 := bs_drop s k hlt
      have hdg : digB s[k] = true := HD.out _ (List.mem_of_getElem? (bs_get s k hlt))
      obtain ⟨d, hdd⟩ : ∃ d : Nat, d = s[k].toNat - 48 := ⟨_, rfl⟩
      have hr := HG.out
      rw [hd1] at hr
      have hb : 48 ≤ s[k].toNat ∧ s[k].toNat ≤ 57 := by unfold digB at hdg; simpa using hdg
      have hd9 : d ≤ 9 := by omega
      have hix : ((s[k].toNat : Int)) = 48 + (d : Int) := by omega
      have hi0 : (0 : Int) ≤ (k : Int) := by omega
      have hi1 : (k : Int) < (s.size : Int) := by omega
      have hov := over_test m d hd9
      have H1 := Lib.hid hix
      have H2 := Lib.hid hov
      rw [numGo, ← hdd] at hr
      clear hix hov hdd hd1 hdg hb
      have H3 := Lib.hid hr
      clear hr
      by_cases ho : 9223372036854775807 < 10 * m + d
      · have H4 : Hid (decide ((9223372036854775807 - (48 + (d : Int) - 48)) / 10 < (m : Int)) = true) := by rw [show (48 : Int) + d - 48 = d from by omega]; show decide _ = true; rw [H2.out]; exact decide_eq_true ho
        have H5 : Hid (R = none) := by have := H3.out; rw [if_pos ho] at this; exact this.symm
        clear ho H2 H3
        have q1 := H1.out
        have q2 := H4.out
        go_wp2_with fail
        go_ret2
        exact ⟨by rw [H5.out]; rfl, HK.out⟩
      · have H4 : Hid (decide ((9223372036854775807 - (48 + (d : Int) - 48)) / 10 < (m : Int)) = false) := by rw [show (48 : Int) + d - 48 = d from by omega]; show decide _ = false; rw [H2.out]; exact decide_eq_false ho
        have H5 : Hid (numGo (10 * m + d) ((bs s).drop (k + 1)) = R) := by have := H3.out; rw [if_neg ho] at this; exact this
        have hb1 : 10 * (m : Int) + (d : Int) ≤ 9223372036854775807 := by omega
        clear ho H2 H3
        have q1 := H1.out
        have q2 := H4.out
        go_wp2_with fail
        go_round
        case rel => exact ⟨k + 1, 10 * m + d, by omega, by omega, by go_num, by go_num, H5⟩
        case measure => simp [intOf]; omega
    · obtain rfl : k = s.size := by omega
      have hr := HG.out
      rw [bs_drop_end s s.size (Nat.le_refl _), numGo] at hr
      have H3 := Lib.hid hr
      clear hr
      have hge : decide ((s.size : Int) < (s.size : Int)) = false := by simp
      go_wp2_with fail
      go_ret2
      exact ⟨by rw [← H3.out]; rfl, HK.out⟩
end Go.Proofs.YtcdmkmbbliaefaaGreatDoor
