/- The reference's Number, of digits. -/
import Derived.Test.YtcdmkmbbliaefaaGreatDoorRef2
namespace Go.Proofs.YtcdmkmbbliaefaaGreatDoor
open Go.RowKit
set_option linter.unusedVariables false
set_option linter.unusedSimpArgs false

set_option maxRecDepth 100000 in
set_option maxHeartbeats 1000000 in
theorem refNumber_any (s : ByteArray) (w : World) (hs : s.size ≤ 140737488351232) (hne : 0 < s.size) (hd : ∀ c ∈ bs s, digB c = true) :
    Calls Tryz.prog 43 #[.string s] w fun e w' => e = .returned (.tuple #[.int .i64 (numRes (numGo 0 (bs s))).1, .int .i64 (numRes (numGo 0 (bs s))).2]) ∧ w' = w := by
  obtain ⟨R, hR⟩ : ∃ R, R = numGo 0 (bs s) := ⟨_, rfl⟩
  rw [← hR]
  have HR := Lib.hid hR; clear hR
  have HD := Lib.hid hd
  clear hd
  have e1 : s.toList = [] ↔ False := by
    constructor
    · intro h; have h1 := congrArg List.length h; rw [ByteArray.toList_eq] at h1; have h2 := bs_len s; unfold bs at h2; simp only [List.length_nil] at h1; omega
    · exact False.elim
  have e1' : (s.toList == []) = false := by rw [beq_eq_false_iff_ne]; exact fun h => e1.1 h
  have e2 : s.toList.isEmpty = false := by
    cases h : s.toList with
    | nil => exact absurd h (fun h => e1.1 h)
    | cons a l => rfl
  go_enter Tryz.func43, Tryz.ntmps43
  go_wp2_with fail
  go_loop [4] (fun i => ∃ k : Nat, k ≤ s.size ∧ i = .int .i64 k) (fun i => s.size - (intOf i).toNat)
  case atStart => exact ⟨0, Nat.zero_le _, rfl⟩
  case round =>
    obtain ⟨k, hk, rfl⟩ := hrel
    by_cases hks : k < s.size
    · have j0 : (0 : Int) ≤ (k : Int) := by omega
      have j1 : (k : Int) < (s.size : Int) := by omega
      obtain ⟨x, hx⟩ : ∃ x, x = s[k] := ⟨_, rfl⟩
      have hix : ∀ (h : k < s.size), ((s[k]'h).toNat : Int) = (x.toNat : Int) := fun h => by rw [hx]
      have hdx := HD.out x (List.mem_of_getElem? (by rw [hx]; exact bs_get s k hks))
      unfold digB at hdx
      simp at hdx
      have t1 : decide ((x.toNat : Int) < 48) = false := by simp; omega
      have t2 : decide ((57 : Int) < (x.toNat : Int)) = false := by simp; omega
      clear hx hdx
      go_wp2_with fail
      go_round
      case rel => exact ⟨k + 1, by omega, by go_num⟩
      case measure => simp [intOf]; omega
    · obtain rfl : k = s.size := by omega
      go_wp2_with fail
      go_loop [5, 6] (fun n i => ∃ (k m : Nat), k ≤ s.size ∧ m ≤ 9223372036854775807 ∧ i = .int .i64 k ∧ n = .int .u64 m ∧ Hid (numGo m ((bs s).drop k) = R)) (fun _ i => s.size - (intOf i).toNat)
      case atStart => exact ⟨0, 0, Nat.zero_le _, by decide, rfl, rfl, HR.out.symm⟩
      case round =>
        obtain ⟨k, m, hk, hm, rfl, rfl, HG⟩ := hrel
        by_cases hks : k < s.size
        · have j0 : (0 : Int) ≤ (k : Int) := by omega
          have j1 : (k : Int) < (s.size : Int) := by omega
          obtain ⟨x, hx⟩ : ∃ x, x = s[k] := ⟨_, rfl⟩
          have hix : ∀ (h : k < s.size), ((s[k]'h).toNat : Int) = (x.toNat : Int) := fun h => by rw [hx]
          have hdx := HD.out x (List.mem_of_getElem? (by rw [hx]; exact bs_get s k hks))
          have HDR : Hid ((bs s).drop k = x :: (bs s).drop (k + 1)) := by rw [hx]; exact bs_drop s k hks
          unfold digB at hdx
          simp at hdx
          obtain ⟨d, hdd⟩ : ∃ d : Nat, d = x.toNat - 48 := ⟨_, rfl⟩
          have hd9 : d ≤ 9 := by omega
          have hxd : ((x.toNat : Int)) = 48 + (d : Int) := by omega
          have hix2 : ∀ (h : k < s.size), ((s[k]'h).toNat : Int) = 48 + (d : Int) := fun h => by rw [hix h, hxd]
          have hr := HG.out
          rw [HDR.out, numGo, ← hdd] at hr
          have H3 := Lib.hid hr
          clear hr hx hdx hix hdd hxd
          by_cases c1 : 922337203685477580 < m
          · have t1 : decide ((922337203685477580 : Int) < (m : Int)) = true := by simp; omega
            have t1' : decide (922337203685477580 < m) = true := by simpa using c1
            have H5 : Hid (R = none) := by have := H3.out; rw [if_pos (by omega)] at this; exact this.symm
            clear H3
            go_wp2_with fail
            go_ret2
            exact ⟨by rw [H5.out]; rfl, rfl⟩
          · have t1 : decide ((922337203685477580 : Int) < (m : Int)) = false := by simp; omega
            by_cases c2 : m = 922337203685477580
            · have t2 : ((m : Int) == 922337203685477580) = true := by rw [beq_iff_eq]; omega
              by_cases c3 : 7 < d
              · have t3 : decide ((7 : Int) < (d : Int)) = true := by simp; omega
                have H5 : Hid (R = none) := by have := H3.out; rw [if_pos (by omega)] at this; exact this.symm
                clear H3 c2
                go_wp2_with fail
                go_ret2
                exact ⟨by rw [H5.out]; rfl, rfl⟩
              · have t3 : decide ((7 : Int) < (d : Int)) = false := by simp; omega
                have H5 : Hid (numGo (10 * m + d) ((bs s).drop (k + 1)) = R) := by have := H3.out; rw [if_neg (by omega)] at this; exact this
                have hb1 : 10 * (m : Int) + (d : Int) ≤ 9223372036854775807 := by omega
                have HC2 := Lib.hid c2
                clear H3 c2
                go_wp2_with fail
                go_round
                case rel => exact ⟨k + 1, 10 * m + d, by omega, by omega, by go_num, by go_num, H5⟩
                case measure => simp [intOf]; omega
            · have t2 : ((m : Int) == 922337203685477580) = false := by rw [beq_eq_false_iff_ne]; omega
              have H5 : Hid (numGo (10 * m + d) ((bs s).drop (k + 1)) = R) := by have := H3.out; rw [if_neg (by omega)] at this; exact this
              have hb1 : 10 * (m : Int) + (d : Int) ≤ 9223372036854775807 := by omega
              clear H3
              go_wp2_with fail
              go_round
              case rel => exact ⟨k + 1, 10 * m + d, by omega, by omega, by go_num, by go_num, H5⟩
              case measure => simp [intOf]; omega
        · obtain rfl : k = s.size := by omega
          have h1 := HG.out
          rw [bs_drop_end s s.size (Nat.le_refl _), numGo] at h1
          have H1 := Lib.hid h1
          clear h1
          go_wp2_with fail
          go_ret2
          exact ⟨by rw [← H1.out]; rfl, rfl⟩
end Go.Proofs.YtcdmkmbbliaefaaGreatDoor
