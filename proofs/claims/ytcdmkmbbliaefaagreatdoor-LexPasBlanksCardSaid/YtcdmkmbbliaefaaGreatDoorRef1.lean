/- The reference's small functions: right, Letter, Has, digits, Begins. -/
import Derived.Test.YtcdmkmbbliaefaaGreatDoorTokRow
namespace Go.Proofs.YtcdmkmbbliaefaaGreatDoor
open Go.RowKit
set_option linter.unusedVariables false
set_option linter.unusedSimpArgs false

theorem refRight_any (c : UInt8) (w : World) :
    Calls Tryz.prog 59 #[.int .u8 (c.toNat : Int)] w fun e w' => e = .returned (.bool (rightB c)) ∧ w' = w := by
  have hlt := c.toNat_lt
  have h9 : (c == 9) = ((c.toNat : Int) == 9) := by
    rw [Bool.eq_iff_iff]; simp [← UInt8.toNat_inj]; omega
  have h10 : (c == 10) = ((c.toNat : Int) == 10) := by
    rw [Bool.eq_iff_iff]; simp [← UInt8.toNat_inj]; omega
  have e : rightB c = (((c.toNat : Int) == 9) || ((c.toNat : Int) == 10) || (decide (32 ≤ (c.toNat : Int)) && decide ((c.toNat : Int) ≤ 126))) := by
    unfold rightB; rw [h9, h10]; congr 2 <;> (rw [Bool.eq_iff_iff]; simp; omega)
  rw [e]
  clear e h9 h10
  generalize (c.toNat : Int) = n
  by_cases a1 : n = 9
  · subst a1
    go_enter Tryz.func59, Tryz.ntmps59
    go_wp2
    go_ret
    exact ⟨rfl, rfl⟩
  by_cases a2 : n = 10
  · subst a2
    go_enter Tryz.func59, Tryz.ntmps59
    go_wp2
    go_ret
    exact ⟨rfl, rfl⟩
  have b1 : (n == 9) = false := by simp [a1]
  have b2 : (n == 10) = false := by simp [a2]
  by_cases a3 : 32 ≤ n
  · have b3 : decide (32 ≤ n) = true := by simpa using a3
    go_enter Tryz.func59, Tryz.ntmps59
    go_wp2
    go_ret
    exact ⟨by simp [b1, b2, b3], rfl⟩
  · have b3 : decide (32 ≤ n) = false := by simpa using a3
    go_enter Tryz.func59, Tryz.ntmps59
    go_wp2
    go_ret
    exact ⟨by simp [b1, b2, b3], rfl⟩


/-- 'May it stand in a name', at the places behind the first. -/
def letB (c : UInt8) : Bool := smallB c || c == 95 || digB c
theorem refLetter_any (c : UInt8) (n : Int) (hn : n = (c.toNat : Int)) (w : World) :
    Calls Tryz.prog 60 #[.int .u8 n, .bool false] w fun e w' => e = .returned (.bool (letB c)) ∧ w' = w := by
  have h95 : (c == 95) = (n == 95) := by
    rw [hn, Bool.eq_iff_iff]; simp [← UInt8.toNat_inj]; omega
  have e : letB c = ((decide (97 ≤ n) && decide (n ≤ 122)) || (n == 95) || (decide (48 ≤ n) && decide (n ≤ 57))) := by
    unfold letB smallB digB; rw [h95, hn]
    have e1 : ∀ a : Nat, decide ((a : Int) ≤ (c.toNat : Int)) = decide (a ≤ c.toNat) := fun a => by rw [Bool.eq_iff_iff]; simp
    have e2 : ∀ a : Nat, decide ((c.toNat : Int) ≤ (a : Int)) = decide (c.toNat ≤ a) := fun a => by rw [Bool.eq_iff_iff]; simp
    have := e1 97; have := e1 48; have := e2 122; have := e2 57
    simp_all
  rw [e]
  clear e h95 hn
  by_cases a1 : 97 ≤ n
  · have b1 : decide (97 ≤ n) = true := by simpa using a1
    by_cases a2 : n ≤ 122
    · have b2 : decide (n ≤ 122) = true := by simpa using a2
      go_enter Tryz.func60, Tryz.ntmps60
      go_wp2
      go_ret
      first | exact ⟨rfl, rfl⟩ | exact ⟨by simp [*], rfl⟩
    · have b2 : decide (n ≤ 122) = false := by simp; omega
      have b3 : (n == 95) = false := by rw [beq_eq_false_iff_ne]; omega
      have b4 : decide (48 ≤ n) = true := by simp; omega
      have b5 : decide (n ≤ 57) = false := by simp; omega
      go_enter Tryz.func60, Tryz.ntmps60
      go_wp2
      go_ret
      first | exact ⟨rfl, rfl⟩ | exact ⟨by simp [*], rfl⟩
  · have b1 : decide (97 ≤ n) = false := by simp; omega
    by_cases a3 : n = 95
    · have b3 : (n == 95) = true := by rw [beq_iff_eq]; exact a3
      go_enter Tryz.func60, Tryz.ntmps60
      go_wp2
      go_ret
      first | exact ⟨rfl, rfl⟩ | exact ⟨by simp [*], rfl⟩
    · have b3 : (n == 95) = false := by rw [beq_eq_false_iff_ne]; exact a3
      by_cases a4 : 48 ≤ n
      · have b4 : decide (48 ≤ n) = true := by simpa using a4
        go_enter Tryz.func60, Tryz.ntmps60
        go_wp2
        go_ret
        first | exact ⟨rfl, rfl⟩ | exact ⟨by simp [*], rfl⟩
      · have b4 : decide (48 ≤ n) = false := by simp; omega
        go_enter Tryz.func60, Tryz.ntmps60
        go_wp2
        go_ret
        first | exact ⟨rfl, rfl⟩ | exact ⟨by simp [*], rfl⟩

/-- Is a byte among a set's. -/
theorem refHas_any (s : ByteArray) (c : UInt8) (n : Int) (hn : n = (c.toNat : Int)) (hs : s.size ≤ 140737488351232) (w : World) :
    Calls Tryz.prog 22 #[.string s, .int .u8 n] w fun e w' => e = .returned (.bool ((bs s).contains c)) ∧ w' = w := by
  obtain ⟨R, hR⟩ : ∃ R, R = (bs s).contains c := ⟨_, rfl⟩
  rw [← hR]
  have HR := Lib.hid hR; have HN := Lib.hid hn
  clear hR hn
  go_enter Tryz.func22, Tryz.ntmps22
  go_wp2_with fail
  go_loop [5] (fun i => ∃ k : Nat, k ≤ s.size ∧ i = .int .i64 k ∧ Hid (((bs s).drop k).contains c = R)) (fun i => s.size - (intOf i).toNat)
  case atStart => exact ⟨0, Nat.zero_le _, rfl, by show _ = R; rw [HR.out]; rfl⟩
  case round =>
    obtain ⟨k, hk, rfl, HG⟩ := hrel
    by_cases hks : k < s.size
    · have j0 : (0 : Int) ≤ (k : Int) := by omega
      have j1 : (k : Int) < (s.size : Int) := by omega
      obtain ⟨x, hx⟩ : ∃ x, x = s[k] := ⟨_, rfl⟩
      have hix : ∀ (h : k < s.size), ((s[k]'h).toNat : Int) = (x.toNat : Int) := fun h => by rw [hx]
      have HD : Hid ((bs s).drop k = x :: (bs s).drop (k + 1)) := by rw [hx]; exact bs_drop s k hks
      clear hx
      by_cases hxc : x = c
      · have t1 : ((x.toNat : Int) == n) = true := by rw [HN.out, hxc, beq_iff_eq]
        have HXC := Lib.hid hxc
        clear hxc
        go_wp2_with fail
        go_ret
        have h1 := HG.out
        rw [HD.out, HXC.out] at h1
        simp at h1
        exact ⟨by rw [h1]; rfl, rfl⟩
      · have t1 : ((x.toNat : Int) == n) = false := by
          rw [HN.out, beq_eq_false_iff_ne]
          intro h
          exact hxc (by apply UInt8.toNat_inj.1; omega)
        have HXC := Lib.hid hxc
        clear hxc
        go_wp2_with fail
        go_round
        case rel =>
          refine ⟨k + 1, by omega, by go_num, ?_⟩
          have h1 := HG.out
          rw [HD.out, List.contains_cons, show (c == x) = false from by rw [beq_eq_false_iff_ne]; exact fun h => HXC.out h.symm, Bool.false_or] at h1
          exact h1
        case measure => simp [intOf]; omega
    · obtain rfl : k = s.size := by omega
      have h1 := HG.out
      rw [bs_drop_end s s.size (Nat.le_refl _)] at h1
      simp at h1
      have H1 := Lib.hid h1
      clear h1
      go_wp2_with fail
      go_ret
      exact ⟨by rw [← H1.out]; rfl, rfl⟩
end Go.Proofs.YtcdmkmbbliaefaaGreatDoor
