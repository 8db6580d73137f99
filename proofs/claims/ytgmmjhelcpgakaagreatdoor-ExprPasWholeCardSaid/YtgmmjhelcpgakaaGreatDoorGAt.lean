/- The reference's small functions: right, Letter, Has, digits, Begins. -/
import Derived.Test.YtgmmjhelcpgakaaGreatDoorGK
namespace Go.Proofs.YtgmmjhelcpgakaaGreatDoor
open Go.RowKit
set_option linter.unusedVariables false
set_option linter.unusedSimpArgs false

theorem refRight_any (c : UInt8) (w : World) :
    Calls Tryz.prog 108 #[.int .u8 (c.toNat : Int)] w fun e w' => e = .returned (.bool (rightB c)) ∧ w' = w := by
  have hlt := c.toNat_lt
  have h9 : (c == 9) = ((c.toNat : Int) == 9) := by
    rw [Bool.eq_iff_iff]; simp [← UInt8.toNat_inj]; omega
  have h10 : (c == 10) = ((c.toNat : Int) == 10) := by
    rw [Bool.eq_iff_iff]; simp [← UInt8.toNat_inj]; omega
  have e : rightB c = (((c.toNat : Int) == 9) || ((c.toNat : Int) == 10) || (decide (32 ≤ (c.toNat : Int)) && decide ((c.toNat : Int) ≤ 126))) := by
    unfold rightB; rw [h9, h10]; congr 2 <;> (rw [Bool.eq_iff_iff]; simp; omega)
  rw [e]
  clear e h9 h10
  generalize (c.toNat : Int) = n
  by_cases a1 : n = 9
  · subst a1
    go_enter Tryz.func108, Tryz.ntmps108
    go_wp2
    go_ret
    exact ⟨rfl, rfl⟩
  by_cases a2 : n = 10
  · subst a2
    go_enter Tryz.func108, Tryz.ntmps108
    go_wp2
    go_ret
    exact ⟨rfl, rfl⟩
  have b1 : (n == 9) = false := by simp [a1]
  have b2 : (n == 10) = false := by simp [a2]
  by_cases a3 : 32 ≤ n
  · have b3 : decide (32 ≤ n) = true := by simpa using a3
    go_enter Tryz.func108, Tryz.ntmps108
    go_wp2
    go_ret
    exact ⟨by simp [b1, b2, b3], rfl⟩
  · have b3 : decide (32 ≤ n) = false := by simpa using a3
    go_enter Tryz.func108, Tryz.ntmps108
    go_wp2
    go_ret
    exact ⟨by simp [b1, b2, b3], rfl⟩


/-- 'May it stand in a name', at the places behind the first. -/
def letB (c : UInt8) : Bool := smallB c || c == 95 || digB c
theorem refLetter_any (c : UInt8) (n : Int) (hn : n = (c.toNat : Int)) (w : World) :
    Calls Tryz.prog 109 #[.int .u8 n, .bool false] w fun e w' => e = .returned (.bool (letB c)) ∧ w' = w := by
  have h95 : (c == 95) = (n == 95) := by
    rw [hn, Bool.eq_iff_iff]; simp [← UInt8.toNat_inj]; omega
  have e : letB c = ((decide (97 ≤ n) && decide (n ≤ 122)) || (n == 95) || (decide (48 ≤ n) && decide (n ≤ 57))) := by
    unfold letB smallB digB; rw [h95, hn]
    have e1 : ∀ a : Nat, decide ((a : Int) ≤ (c.toNat : Int)) = decide (a ≤ c.toNat) := fun a => by rw [Bool.eq_iff_iff]; simp
    have e2 : ∀ a : Nat, decide ((c.toNat : Int) ≤ (a : Int)) = decide (c.toNat ≤ a) := fun a => by rw [Bool.eq_iff_iff]; simp
    have := e1 97; have := e1 48; have := e2 122; have := e2 57
    simp_all
  rw [e]
  clear e h95 hn
  by_cases a1 : 97 ≤ n
  · have b1 : decide (97 ≤ n) = true := by simpa using a1
    by_cases a2 : n ≤ 122
    · have b2 : decide (n ≤ 122) = true := by simpa using a2
      go_enter Tryz.func109, Tryz.ntmps109
      go_wp2
      go_ret
      first | exact ⟨rfl, rfl⟩ | exact ⟨by simp [*], rfl⟩
    · have b2 : decide (n ≤ 122) = false := by simp; omega
      have b3 : (n == 95) = false := by rw [beq_eq_false_iff_ne]; omega
      have b4 : decide (48 ≤ n) = true := by simp; omega
      have b5 : decide (n ≤ 57) = false := by simp; omega
      go_enter Tryz.func109, Tryz.ntmps109
      go_wp2
      go_ret
      first | exact ⟨rfl, rfl⟩ | exact ⟨by simp [*], rfl⟩
  · have b1 : decide (97 ≤ n) = false := by simp; omega
    by_cases a3 : n = 95
    · have b3 : (n == 95) = true := by rw [beq_iff_eq]; exact a3
      go_enter Tryz.func109, Tryz.ntmps109
      go_wp2
      go_ret
      first | exact ⟨rfl, rfl⟩ | exact ⟨by simp [*], rfl⟩
    · have b3 : (n == 95) = false := by rw [beq_eq_false_iff_ne]; exact a3
      by_cases a4 : 48 ≤ n
      · have b4 : decide (48 ≤ n) = true := by simpa using a4
        go_enter Tryz.func109, Tryz.ntmps109
        go_wp2
        go_ret
        first | exact ⟨rfl, rfl⟩ | exact ⟨by simp [*], rfl⟩
      · have b4 : decide (48 ≤ n) = false := by simp; omega
        go_enter Tryz.func109, Tryz.ntmps109
        go_wp2
        go_ret
        first | exact ⟨rfl, rfl⟩ | exact ⟨by simp [*], rfl⟩

/-- Is a byte among a set's. -/
theorem refHas_any (s : ByteArray) (c : UInt8) (n : Int) (hn : n = (c.toNat : Int)) (hs : s.size ≤ 140737488351232) (w : World) :
    Calls Tryz.prog 37 #[.string s, .int .u8 n] w fun e w' => e = .returned (.bool ((bs s).contains c)) ∧ w' = w := by
  obtain ⟨R, hR⟩ : ∃ R, R = (bs s).contains c := ⟨_, rfl⟩
  rw [← hR]
  have HR := Lib.hid hR; have HN := Lib.hid hn
  clear hR hn
  go_enter Tryz.func37, Tryz.ntmps37
  go_wp2_with fail
  go_loop [5] (fun i => ∃ k : Nat, k ≤ s.size ∧ i = .int .i64 k ∧ Hid (((bs s).drop k).contains c = R)) (fun i => s.size - (intOf i).toNat)
  case atStart => exact ⟨0, Nat.zero_le _, rfl, by show _ = R; rw [HR.out]; rfl⟩
  case round =>
    obtain ⟨k, hk, rfl, HG⟩ := hrel
    by_cases hks : k < s.size
    · have j0 : (0 : Int) ≤ (k : Int) := by omega
      have j1 : (k : Int) < (s.size : Int) := by omega
      obtain ⟨x, hx⟩ : ∃ x, x = s[k] := ⟨_, rfl⟩
      have hix : ∀ (h : k < s.size), ((s[k]'h).toNat : Int) = (x.toNat : Int) := fun h => by rw [hx]
      have HD : Hid ((bs s).drop k = x :: (bs s).drop (k + 1)) := by rw [hx]; exact bs_drop s k hks
      clear hx
      by_cases hxc : x = c
      · have t1 : ((x.toNat : Int) == n) = true := by rw [HN.out, hxc, beq_iff_eq]
        have HXC := Lib.hid hxc
        clear hxc
        go_wp2_with fail
        go_ret
        have h1 := HG.out
        rw [HD.out, HXC.out] at h1
        simp at h1
        exact ⟨by rw [h1]; rfl, rfl⟩
      · have t1 : ((x.toNat : Int) == n) = false := by
          rw [HN.out, beq_eq_false_iff_ne]
          intro h
          exact hxc (by apply UInt8.toNat_inj.1; omega)
        have HXC := Lib.hid hxc
        clear hxc
        go_wp2_with fail
        go_round
        case rel =>
          refine ⟨k + 1, by omega, by go_num, ?_⟩
          have h1 := HG.out
          rw [HD.out, List.contains_cons, show (c == x) = false from by rw [beq_eq_false_iff_ne]; exact fun h => HXC.out h.symm, Bool.false_or] at h1
          exact h1
        case measure => simp [intOf]; omega
    · obtain rfl : k = s.size := by omega
      have h1 := HG.out
      rw [bs_drop_end s s.size (Nat.le_refl _)] at h1
      simp at h1
      have H1 := Lib.hid h1
      clear h1
      go_wp2_with fail
      go_ret
      exact ⟨by rw [← H1.out]; rfl, rfl⟩
end Go.Proofs.YtgmmjhelcpgakaaGreatDoor
/- The reference's digits, Begins, step. -/
namespace Go.Proofs.YtgmmjhelcpgakaaGreatDoor
open Go.RowKit
set_option linter.unusedVariables false
set_option linter.unusedSimpArgs false

theorem refDigits_any (s : ByteArray) (hs : s.size ≤ 140737488351232) (w : World) :
    Calls Tryz.prog 72 #[.string s] w fun e w' => e = .returned (.int .i64 (spanLen digB (bs s) : Nat)) ∧ w' = w := by
  obtain ⟨n, hn⟩ : ∃ n, n = spanLen digB (bs s) := ⟨_, rfl⟩
  rw [← hn]
  have hle := spanLen_le digB (bs s)
  rw [← hn, bs_len] at hle
  have HN := Lib.hid hn
  clear hn
  go_enter Tryz.func72, Tryz.ntmps72
  go_wp2_with fail
  go_loop [3] (fun i => ∃ k : Nat, k ≤ n ∧ i = .int .i64 k) (fun i => n - (intOf i).toNat)
  case atStart => exact ⟨0, Nat.zero_le _, rfl⟩
  case round =>
    obtain ⟨k, hk, rfl⟩ := hrel
    by_cases hks : k < s.size
    · have j0 : (0 : Int) ≤ (k : Int) := by omega
      have j1 : (k : Int) < (s.size : Int) := by omega
      obtain ⟨x, hx⟩ : ∃ x, x = s[k] := ⟨_, rfl⟩
      have hix : ∀ (h : k < s.size), ((s[k]'h).toNat : Int) = (x.toNat : Int) := fun h => by rw [hx]
      have hin : k < n → digB x = true := fun h => by
        rw [hx]
        obtain ⟨c, h1, h2⟩ := spanLen_at digB (bs s) k (by rw [← HN.out]; exact h)
        rw [bs_get s k hks] at h1
        injection h1 with h1; rw [h1]; exact h2
      have hout : k = n → digB x = false := fun h => by
        rw [hx]
        refine spanLen_end digB (bs s) _ ?_
        rw [← HN.out, ← h]; exact bs_get s k hks
      by_cases hkn : k < n
      · have hd := hin hkn
        unfold digB at hd
        simp at hd
        have t1 : decide ((48 : Int) ≤ (x.toNat : Int)) = true := by simp; omega
        have t2 : decide ((x.toNat : Int) ≤ 57) = true := by simp; omega
        clear hin hout hx hd
        go_wp2_with fail
        go_round
        case rel => exact ⟨k + 1, by omega, by go_num⟩
        case measure => simp [intOf]; omega
      · obtain rfl : k = n := by omega
        have hd := hout rfl
        unfold digB at hd
        by_cases h48 : 48 ≤ x.toNat
        · have t1 : decide ((48 : Int) ≤ (x.toNat : Int)) = true := by simp; omega
          have t2 : decide ((x.toNat : Int) ≤ 57) = false := by simp [h48] at hd; simp; omega
          clear hin hout hx hd h48
          go_wp2_with fail
          go_ret
          exact ⟨rfl, rfl⟩
        · have t1 : decide ((48 : Int) ≤ (x.toNat : Int)) = false := by simp; omega
          clear hin hout hx hd h48
          go_wp2_with fail
          go_ret
          exact ⟨rfl, rfl⟩
    · obtain rfl : k = n := by omega
      go_wp2_with fail
      go_ret
      exact ⟨rfl, rfl⟩

theorem refBegins_any (s : ByteArray) (w : World) :
    Calls Tryz.prog 69 #[.int .i64 0, .string s] w fun e w' => e = .returned (.bool (noteBegins (bs s))) ∧ w' = w := by
  by_cases h0 : 0 < s.size
  · obtain ⟨x, hx⟩ : ∃ x, x = s[0] := ⟨_, rfl⟩
    have hix : ∀ (h : 0 < s.size), ((s[0]'h).toNat : Int) = (x.toNat : Int) := fun h => by rw [hx]
    have hd := bs_drop s 0 h0
    rw [List.drop_zero, ← hx] at hd
    have ht : decide ((0 : Int) < (s.size : Int)) = true := by simp; omega
    have j1 : (0 : Int) < (s.size : Int) := by omega
    have hnb : noteBegins (bs s) = (x == 123) := by rw [hd]; unfold noteBegins; simp
    rw [hnb]
    clear hd hx hnb
    by_cases hxc : x = 123
    · have t1 : ((x.toNat : Int) == 123) = true := by subst hxc; rfl
      have HX : Hid ((x == 123) = true) := by show _ = _; rw [hxc]; rfl
      clear hxc
      go_enter Tryz.func69, Tryz.ntmps69
      go_wp2_with fail
      go_ret
      exact ⟨by rw [HX.out]; rfl, rfl⟩
    · have t1 : ((x.toNat : Int) == 123) = false := by
        rw [beq_eq_false_iff_ne]; intro h
        exact hxc (by apply UInt8.toNat_inj.1; show x.toNat = 123; omega)
      have HX : Hid ((x == 123) = false) := by show _ = _; rw [beq_eq_false_iff_ne]; exact hxc
      clear hxc
      go_enter Tryz.func69, Tryz.ntmps69
      go_wp2_with fail
      go_ret
      exact ⟨by rw [HX.out]; rfl, rfl⟩
  · have hz : s.size = 0 := by omega
    have HX : Hid (noteBegins (bs s) = false) := by
      show _ = _
      have : bs s = [] := List.eq_nil_of_length_eq_zero (by rw [bs_len]; omega)
      rw [this]; rfl
    clear h0
    go_enter Tryz.func69, Tryz.ntmps69
    go_wp2_with fail
    go_ret
    exact ⟨by rw [HX.out]; rfl, rfl⟩

set_option maxHeartbeats 1000000 in
theorem refStep_any (a l c : Nat) (x : UInt8) (n : Int) (hn : n = (x.toNat : Int)) (w : World) (ha : a ≤ 140737488351232) (hl : l ≤ 140737488351232) (hc : c ≤ 140737488351232) :
    Calls Tryz.prog 38 #[.agg #[.int .i64 a, .int .i64 l, .int .i64 c], .int .u8 n] w fun e w' =>
      e = .returned (if x = 10 then .agg #[.int .i64 (a + 1 : Nat), .int .i64 (l + 1 : Nat), .int .i64 0] else .agg #[.int .i64 (a + 1 : Nat), .int .i64 l, .int .i64 (c + 1 : Nat)]) ∧ Keep (fun _ => False) w w' := by
  have hu26 := Tryz.underlying28
  by_cases h : x = 10
  · rw [if_pos h]
    have t1 : (n == 10) = true := by rw [hn, h]; rfl
    clear h hn
    go_enter Tryz.func38, Tryz.ntmps38
    go_wp2_with fail
    have X : Blk ((w.alloc (.cells #[.int .i64 a, .int .i64 l, .int .i64 c] 28)).alloc (.cells #[.int .i64 ((a : Int) + 1), .int .i64 ((l : Int) + 1), .int .i64 0] 28)) (w.heap.size + 1) #[.int .i64 ((a : Int) + 1), .int .i64 ((l : Int) + 1), .int .i64 0] 28 := Blk.new2 _ _ _
    have x0 := X.at_ 0 rfl
    have x1 := X.at_ 1 rfl
    have x2 := X.at_ 2 rfl
    refine bodyPost_ret (v := .agg #[.int .i64 ((a : Int) + 1), .int .i64 ((l : Int) + 1), .int .i64 0]) (by simp [results, Tryz.results38, go_sem, x0, x1, x2]) rfl ?_
    exact ⟨rfl, ((Keep.refl _ w).alloc _).alloc _⟩
  · rw [if_neg h]
    have t1 : (n == 10) = false := by
      rw [hn, beq_eq_false_iff_ne]; intro e
      exact h (by apply UInt8.toNat_inj.1; show x.toNat = 10; omega)
    clear h hn
    go_enter Tryz.func38, Tryz.ntmps38
    go_wp2_with fail
    have X : Blk ((w.alloc (.cells #[.int .i64 a, .int .i64 l, .int .i64 c] 28)).alloc (.cells #[.int .i64 ((a : Int) + 1), .int .i64 (l : Int), .int .i64 ((c : Int) + 1)] 28)) (w.heap.size + 1) #[.int .i64 ((a : Int) + 1), .int .i64 (l : Int), .int .i64 ((c : Int) + 1)] 28 := Blk.new2 _ _ _
    have x0 := X.at_ 0 rfl
    have x1 := X.at_ 1 rfl
    have x2 := X.at_ 2 rfl
    refine bodyPost_ret (v := .agg #[.int .i64 ((a : Int) + 1), .int .i64 (l : Int), .int .i64 ((c : Int) + 1)]) (by simp [results, Tryz.results38, go_sem, x0, x1, x2]) rfl ?_
    exact ⟨rfl, ((Keep.refl _ w).alloc _).alloc _⟩
end Go.Proofs.YtgmmjhelcpgakaaGreatDoor
/- The reference's Number, of digits. -/
namespace Go.Proofs.YtgmmjhelcpgakaaGreatDoor
open Go.RowKit
set_option linter.unusedVariables false
set_option linter.unusedSimpArgs false

set_option maxRecDepth 100000 in
set_option maxHeartbeats 1000000 in
theorem refNumber_any (s : ByteArray) (w : World) (hs : s.size ≤ 140737488351232) (hne : 0 < s.size) (hd : ∀ c ∈ bs s, digB c = true) :
    Calls Tryz.prog 73 #[.string s] w fun e w' => e = .returned (.tuple #[.int .i64 (numRes (numGo 0 (bs s))).1, .int .i64 (numRes (numGo 0 (bs s))).2]) ∧ w' = w := by
  obtain ⟨R, hR⟩ : ∃ R, R = numGo 0 (bs s) := ⟨_, rfl⟩
  rw [← hR]
  have HR := Lib.hid hR; clear hR
  have HD := Lib.hid hd
  clear hd
  have e1 : s.toList = [] ↔ False := by
    constructor
    · intro h; have h1 := congrArg List.length h; rw [ByteArray.toList_eq] at h1; have h2 := bs_len s; unfold bs at h2; simp only [List.length_nil] at h1; omega
    · exact False.elim
  have e1' : (s.toList == []) = false := by rw [beq_eq_false_iff_ne]; exact fun h => e1.1 h
  have e2 : s.toList.isEmpty = false := by
    cases h : s.toList with
    | nil => exact absurd h (fun h => e1.1 h)
    | cons a l => rfl
  go_enter Tryz.func73, Tryz.ntmps73
  go_wp2_with fail
  go_loop [4] (fun i => ∃ k : Nat, k ≤ s.size ∧ i = .int .i64 k) (fun i => s.size - (intOf i).toNat)
  case atStart => exact ⟨0, Nat.zero_le _, rfl⟩
  case round =>
    obtain ⟨k, hk, rfl⟩ := hrel
    by_cases hks : k < s.size
    · have j0 : (0 : Int) ≤ (k : Int) := by omega
      have j1 : (k : Int) < (s.size : Int) := by omega
      obtain ⟨x, hx⟩ : ∃ x, x = s[k] := ⟨_, rfl⟩
      have hix : ∀ (h : k < s.size), ((s[k]'h).toNat : Int) = (x.toNat : Int) := fun h => by rw [hx]
      have hdx := HD.out x (List.mem_of_getElem? (by rw [hx]; exact bs_get s k hks))
      unfold digB at hdx
      simp at hdx
      have t1 : decide ((x.toNat : Int) < 48) = false := by simp; omega
      have t2 : decide ((57 : Int) < (x.toNat : Int)) = false := by simp; omega
      clear hx hdx
      go_wp2_with fail
      go_round
      case rel => exact ⟨k + 1, by omega, by go_num⟩
      case measure => simp [intOf]; omega
    · obtain rfl : k = s.size := by omega
      go_wp2_with fail
      go_loop [5, 6] (fun n i => ∃ (k m : Nat), k ≤ s.size ∧ m ≤ 9223372036854775807 ∧ i = .int .i64 k ∧ n = .int .u64 m ∧ Hid (numGo m ((bs s).drop k) = R)) (fun _ i => s.size - (intOf i).toNat)
      case atStart => exact ⟨0, 0, Nat.zero_le _, by decide, rfl, rfl, HR.out.symm⟩
      case round =>
        obtain ⟨k, m, hk, hm, rfl, rfl, HG⟩ := hrel
        by_cases hks : k < s.size
        · have j0 : (0 : Int) ≤ (k : Int) := by omega
          have j1 : (k : Int) < (s.size : Int) := by omega
          obtain ⟨x, hx⟩ : ∃ x, x = s[k] := ⟨_, rfl⟩
          have hix : ∀ (h : k < s.size), ((s[k]'h).toNat : Int) = (x.toNat : Int) := fun h => by rw [hx]
          have hdx := HD.out x (List.mem_of_getElem? (by rw [hx]; exact bs_get s k hks))
          have HDR : Hid ((bs s).drop k = x :: (bs s).drop (k + 1)) := by rw [hx]; exact bs_drop s k hks
          unfold digB at hdx
          simp at hdx
          obtain ⟨d, hdd⟩ : ∃ d : Nat, d = x.toNat - 48 := ⟨_, rfl⟩
          have hd9 : d ≤ 9 := by omega
          have hxd : ((x.toNat : Int)) = 48 + (d : Int) := by omega
          have hix2 : ∀ (h : k < s.size), ((s[k]'h).toNat : Int) = 48 + (d : Int) := fun h => by rw [hix h, hxd]
          have hr := HG.out
          rw [HDR.out, numGo, ← hdd] at hr
          have H3 := Lib.hid hr
          clear hr hx hdx hix hdd hxd
          by_cases c1 : 922337203685477580 < m
          · have t1 : decide ((922337203685477580 : Int) < (m : Int)) = true := by simp; omega
            have t1' : decide (922337203685477580 < m) = true := by simpa using c1
            have H5 : Hid (R = none) := by have := H3.out; rw [if_pos (by omega)] at this; exact this.symm
            clear H3
            go_wp2_with fail
            go_ret2
            exact ⟨by rw [H5.out]; rfl, rfl⟩
          · have t1 : decide ((922337203685477580 : Int) < (m : Int)) = false := by simp; omega
            by_cases c2 : m = 922337203685477580
            · have t2 : ((m : Int) == 922337203685477580) = true := by rw [beq_iff_eq]; omega
              by_cases c3 : 7 < d
              · have t3 : decide ((7 : Int) < (d : Int)) = true := by simp; omega
                have H5 : Hid (R = none) := by have := H3.out; rw [if_pos (by omega)] at this; exact this.symm
                clear H3 c2
                go_wp2_with fail
                go_ret2
                exact ⟨by rw [H5.out]; rfl, rfl⟩
              · have t3 : decide ((7 : Int) < (d : Int)) = false := by simp; omega
                have H5 : Hid (numGo (10 * m + d) ((bs s).drop (k + 1)) = R) := by have := H3.out; rw [if_neg (by omega)] at this; exact this
                have hb1 : 10 * (m : Int) + (d : Int) ≤ 9223372036854775807 := by omega
                have HC2 := Lib.hid c2
                clear H3 c2
                go_wp2_with fail
                go_round
                case rel => exact ⟨k + 1, 10 * m + d, by omega, by omega, by go_num, by go_num, H5⟩
                case measure => simp [intOf]; omega
            · have t2 : ((m : Int) == 922337203685477580) = false := by rw [beq_eq_false_iff_ne]; omega
              have H5 : Hid (numGo (10 * m + d) ((bs s).drop (k + 1)) = R) := by have := H3.out; rw [if_neg (by omega)] at this; exact this
              have hb1 : 10 * (m : Int) + (d : Int) ≤ 9223372036854775807 := by omega
              clear H3
              go_wp2_with fail
              go_round
              case rel => exact ⟨k + 1, 10 * m + d, by omega, by omega, by go_num, by go_num, H5⟩
              case measure => simp [intOf]; omega
        · obtain rfl : k = s.size := by omega
          have h1 := HG.out
          rw [bs_drop_end s s.size (Nat.le_refl _), numGo] at h1
          have H1 := Lib.hid h1
          clear h1
          go_wp2_with fail
          go_ret2
          exact ⟨by rw [← H1.out]; rfl, rfl⟩
end Go.Proofs.YtgmmjhelcpgakaaGreatDoor
