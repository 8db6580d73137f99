/- The reference's digits, Begins, step. -/
import Derived.Test.YtcdmkmbbliaefaaGreatDoorRef1
namespace Go.Proofs.YtcdmkmbbliaefaaGreatDoor
open Go.RowKit
set_option linter.unusedVariables false
set_option linter.unusedSimpArgs false

theorem refDigits_any (s : ByteArray) (hs : s.size ≤ 140737488351232) (w : World) :
    Calls Tryz.prog 42 #[.string s] w fun e w' => e = .returned (.int .i64 (spanLen digB (bs s) : Nat)) ∧ w' = w := by
  obtain ⟨n, hn⟩ : ∃ n, n = spanLen digB (bs s) := ⟨_, rfl⟩
  rw [← hn]
  have hle := spanLen_le digB (bs s)
  rw [← hn, bs_len] at hle
  have HN := Lib.hid hn
  clear hn
  go_enter Tryz.func42, Tryz.ntmps42
  go_wp2_with fail
  go_loop [3] (fun i => ∃ k : Nat, k ≤ n ∧ i = .int .i64 k) (fun i => n - (intOf i).toNat)
  case atStart => exact ⟨0, Nat.zero_le _, rfl⟩
  case round =>
    obtain ⟨k, hk, rfl⟩ := hrel
    by_cases hks : k < s.size
    · have j0 : (0 : Int) ≤ (k : Int) := by omega
      have j1 : (k : Int) < (s.size : Int) := by omega
      obtain ⟨x, hx⟩ : ∃ x, x = s[k] := ⟨_, rfl⟩
      have hix : ∀ (h : k < s.size), ((s[k]'h).toNat : Int) = (x.toNat : Int) := fun h => by rw [hx]
      have hin : k < n → digB x = true := fun h => by
        rw [hx]
        obtain ⟨c, h1, h2⟩ := spanLen_at digB (bs s) k (by rw [← HN.out]; exact h)
        rw [bs_get s k hks] at h1
        injection h1 with h1; rw [h1]; exact h2
      have hout : k = n → digB x = false := fun h => by
        rw [hx]
        refine spanLen_end digB (bs s) _ ?_
        rw [← HN.out, ← h]; exact bs_get s k hks
      by_cases hkn : k < n
      · have hd := hin hkn
        unfold digB at hd
        simp at hd
        have t1 : decide ((48 : Int) ≤ (x.toNat : Int)) = true := by simp; omega
        have t2 : decide ((x.toNat : Int) ≤ 57) = true := by simp; omega
        clear hin hout hx hd
        go_wp2_with fail
        go_round
        case rel => exact ⟨k + 1, by omega, by go_num⟩
        case measure => simp [intOf]; omega
      · obtain rfl : k = n := by omega
        have hd := hout rfl
        unfold digB at hd
        by_cases h48 : 48 ≤ x.toNat
        · have t1 : decide ((48 : Int) ≤ (x.toNat : Int)) = true := by simp; omega
          have t2 : decide ((x.toNat : Int) ≤ 57) = false := by simp [h48] at hd; simp; omega
          clear hin hout hx hd h48
          go_wp2_with fail
          go_ret
          exact ⟨rfl, rfl⟩
        · have t1 : decide ((48 : Int) ≤ (x.toNat : Int)) = false := by simp; omega
          clear hin hout hx hd h48
          go_wp2_with fail
          go_ret
          exact ⟨rfl, rfl⟩
    · obtain rfl : k = n := by omega
      go_wp2_with fail
      go_ret
      exact ⟨rfl, rfl⟩

theorem refBegins_any (s : ByteArray) (w : World) :
    Calls Tryz.prog 39 #[.int .i64 0, .string s] w fun e w' => e = .returned (.bool (noteBegins (bs s))) ∧ w' = w := by
  by_cases h0 : 0 < s.size
  · obtain ⟨x, hx⟩ : ∃ x, x = s[0] := ⟨_, rfl⟩
    have hix : ∀ (h : 0 < s.size), ((s[0]'h).toNat : Int) = (x.toNat : Int) := fun h => by rw [hx]
    have hd := bs_drop s 0 h0
    rw [List.drop_zero, ← hx] at hd
    have ht : decide ((0 : Int) < (s.size : Int)) = true := by simp; omega
    have j1 : (0 : Int) < (s.size : Int) := by omega
    have hnb : noteBegins (bs s) = (x == 123) := by rw [hd]; unfold noteBegins; simp
    rw [hnb]
    clear hd hx hnb
    by_cases hxc : x = 123
    · have t1 : ((x.toNat : Int) == 123) = true := by subst hxc; rfl
      have HX : Hid ((x == 123) = true) := by show _ = _; rw [hxc]; rfl
      clear hxc
      go_enter Tryz.func39, Tryz.ntmps39
      go_wp2_with fail
      go_ret
      exact ⟨by rw [HX.out]; rfl, rfl⟩
    · have t1 : ((x.toNat : Int) == 123) = false := by
        rw [beq_eq_false_iff_ne]; intro h
        exact hxc (by apply UInt8.toNat_inj.1; show x.toNat = 123; omega)
      have HX : Hid ((x == 123) = false) := by show _ = _; rw [beq_eq_false_iff_ne]; exact hxc
      clear hxc
      go_enter Tryz.func39, Tryz.ntmps39
      go_wp2_with fail
      go_ret
      exact ⟨by rw [HX.out]; rfl, rfl⟩
  · have hz : s.size = 0 := by omega
    have HX : Hid (noteBegins (bs s) = false) := by
      show _ = _
      have : bs s = [] := List.eq_nil_of_length_eq_zero (by rw [bs_len]; omega)
      rw [this]; rfl
    clear h0
    go_enter Tryz.func39, Tryz.ntmps39
    go_wp2_with fail
    go_ret
    exact ⟨by rw [HX.out]; rfl, rfl⟩

set_option maxHeartbeats 1000000 in
theorem refStep_any (a l c : Nat) (x : UInt8) (n : Int) (hn : n = (x.toNat : Int)) (w : World) (ha : a ≤ 140737488351232) (hl : l ≤ 140737488351232) (hc : c ≤ 140737488351232) :
    Calls Tryz.prog 23 #[.agg #[.int .i64 a, .int .i64 l, .int .i64 c], .int .u8 n] w fun e w' =>
      e = .returned (if x = 10 then .agg #[.int .i64 (a + 1 : Nat), .int .i64 (l + 1 : Nat), .int .i64 0] else .agg #[.int .i64 (a + 1 : Nat), .int .i64 l, .int .i64 (c + 1 : Nat)]) ∧ Keep (fun _ => False) w w' := by
  have hu26 := Tryz.underlying26
  by_cases h : x = 10
  · rw [if_pos h]
    have t1 : (n == 10) = true := by rw [hn, h]; rfl
    clear h hn
    go_enter Tryz.func23, Tryz.ntmps23
    go_wp2_with fail
    have X : Blk ((w.alloc (.cells #[.int .i64 a, .int .i64 l, .int .i64 c] 26)).alloc (.cells #[.int .i64 ((a : Int) + 1), .int .i64 ((l : Int) + 1), .int .i64 0] 26)) (w.heap.size + 1) #[.int .i64 ((a : Int) + 1), .int .i64 ((l : Int) + 1), .int .i64 0] 26 := Blk.new2 _ _ _
    have x0 := X.at_ 0 rfl
    have x1 := X.at_ 1 rfl
    have x2 := X.at_ 2 rfl
    refine bodyPost_ret (v := .agg #[.int .i64 ((a : Int) + 1), .int .i64 ((l : Int) + 1), .int .i64 0]) (by simp [results, Tryz.results23, go_sem, x0, x1, x2]) rfl ?_
    exact ⟨rfl, ((Keep.refl _ w).alloc _).alloc _⟩
  · rw [if_neg h]
    have t1 : (n == 10) = false := by
      rw [hn, beq_eq_false_iff_ne]; intro e
      exact h (by apply UInt8.toNat_inj.1; show x.toNat = 10; omega)
    clear h hn
    go_enter Tryz.func23, Tryz.ntmps23
    go_wp2_with fail
    have X : Blk ((w.alloc (.cells #[.int .i64 a, .int .i64 l, .int .i64 c] 26)).alloc (.cells #[.int .i64 ((a : Int) + 1), .int .i64 (l : Int), .int .i64 ((c : Int) + 1)] 26)) (w.heap.size + 1) #[.int .i64 ((a : Int) + 1), .int .i64 (l : Int), .int .i64 ((c : Int) + 1)] 26 := Blk.new2 _ _ _
    have x0 := X.at_ 0 rfl
    have x1 := X.at_ 1 rfl
    have x2 := X.at_ 2 rfl
    refine bodyPost_ret (v := .agg #[.int .i64 ((a : Int) + 1), .int .i64 (l : Int), .int .i64 ((c : Int) + 1)]) (by simp [results, Tryz.results23, go_sem, x0, x1, x2]) rfl ?_
    exact ⟨rfl, ((Keep.refl _ w).alloc _).alloc _⟩
end Go.Proofs.YtcdmkmbbliaefaaGreatDoor
