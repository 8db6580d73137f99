/- Package tree: checker.expr, one kind of operation after the other (calls, signs of one operand). -/
import Derived.Test.YtgmmjhelcpgakaaGreatDoorGY
namespace Go.Proofs.YtgmmjhelcpgakaaGreatDoor
open Go.RowKit
set_option linter.unusedVariables false
set_option linter.unusedSimpArgs false

set_option maxRecDepth 100000 in
set_option maxHeartbeats 4000000 in
theorem ck7 (n : Int) (nm f : ByteArray) (ds : List Nat) (m : Nat) (hm : m = ds.length) (A : Option Addr) (c : Nat) (w : World)
    (HF : Hid (∀ W, Calls Tryz.prog 96 #[.slice A m c] W fun e w' => e = .returned (.bool (decide (m ≤ 512))) ∧ w' = W))
    (HC : Hid (∀ W n', n' = n → Keep (fun _ => False) w W → Calls Tryz.prog 98 #[.agg #[.int .i64 0], .agg #[.int .i64 7, .int .i64 n', .string nm, .string f, .slice A m c]] W (DPost (if nameOK nm = true then deepS ds else 0) W))) :
    Calls Tryz.prog 54 #[.agg #[.int .i64 0], .agg #[.int .i64 7, .int .i64 n, .string nm, .string f, .slice A m c]] w (DPost (chkOf 7 n nm f ds) w) := by
  obtain ⟨q, hq⟩ : ∃ q, q = chkOf 7 n nm f ds := ⟨_, rfl⟩
  rw [← hq]
  have HQ := Lib.hid hq; have HM := Lib.hid hm
  obtain ⟨bm, hbm⟩ : ∃ bm, bm = decide (m ≤ 512) := ⟨_, rfl⟩
  rw [← hbm] at HF
  have HBM := Lib.hid hbm
  obtain ⟨D, hD⟩ : ∃ D, D = (if nameOK nm = true then deepS ds else 0) := ⟨_, rfl⟩
  rw [← hD] at HC
  have HDD := Lib.hid hD
  clear hD
  clear hq hm hbm
  have HK0 := Lib.hid (fun n' : Int => show Keep (fun _ => False) w ((w.alloc (.cells #[.int .i64 0] 109)).alloc (.cells #[.int .i64 7, .int .i64 n', .string nm, .string f, .slice A m c] 25)) from ((Keep.refl _ w).alloc _).alloc _)
  have HB0 := Lib.hid (fun n' : Int => show Blk ((w.alloc (.cells #[.int .i64 0] 109)).alloc (.cells #[.int .i64 7, .int .i64 n', .string nm, .string f, .slice A m c] 25)) w.heap.size #[.int .i64 0] 109 from (Blk.new w _ _).alloc _)
  have HB1 := Lib.hid (fun n' : Int => show Blk ((w.alloc (.cells #[.int .i64 0] 109)).alloc (.cells #[.int .i64 7, .int .i64 n', .string nm, .string f, .slice A m c] 25)) (w.heap.size + 1) #[.int .i64 7, .int .i64 n', .string nm, .string f, .slice A m c] 25 from Blk.new' (by simp) _ _)
  go_enter Tryz.func54, Tryz.ntmps54
  go_wp2_with fail
  all_goals first
    | (have hq0 : q = 0 := HQ.out.trans (by first | exact odd_f _ _ _ _ _ (by assumption) (by decide) | exact odd_n _ _ _ _ _ (by assumption) (by decide))
       subst hq0
       go_ret
       exact ⟨rfl, (HK0.out _)⟩)
    | (refine (HF.out _).mono ?_
       rintro e w' ⟨rfl, rfl⟩
       cases bm with
       | false =>
         have hq0 : q = 0 := HQ.out.trans (odd_l _ _ _ _ _ (by have h := of_decide_eq_false HBM.out.symm; have := HM.out; omega))
         subst hq0
         go_wp2_with fail
         go_ret
         exact ⟨rfl, (HK0.out _)⟩
       | true =>
         have HE := Lib.hid (even_eq (ds := ds) (o := 7) (n := n) (nm := nm) (f := f) (by first | exact .inl (by assumption) | exact .inr (by first | rfl | decide)) (by first | exact .inl (by assumption) | exact .inr (by decide)) (by first | exact .inl (by assumption) | exact .inr (by decide)) (by have h := of_decide_eq_true HBM.out.symm; have := HM.out; omega))
         have hq1 : q = D := by rw [HDD.out]; exact HQ.out.trans (chk_call HE.out)
         have HQ1 := Lib.hid hq1
         clear hq1
         go_wp2_with fail
         refine (HC.out _ _ (by first | rfl | exact (show n = 0 by assumption).symm) (HK0.out _)).mono ?_
         rintro e w3 ⟨rfl, hk3⟩
         have h3 := (HK0.out _).trans hk3
         rw [← HQ1.out]
         go_wp2_with fail
         go_ret
         exact ⟨rfl, h3⟩)
set_option maxRecDepth 100000 in
set_option maxHeartbeats 4000000 in
theorem ck8 (n : Int) (nm f : ByteArray) (ds : List Nat) (m : Nat) (hm : m = ds.length) (A : Option Addr) (c : Nat) (w : World)
    (HF : Hid (∀ W, Calls Tryz.prog 96 #[.slice A m c] W fun e w' => e = .returned (.bool (decide (m ≤ 512))) ∧ w' = W))
    (HD : Hid (∀ W, Keep (fun _ => False) w W → Calls Tryz.prog 99 #[.agg #[.int .i64 0], .slice A m c] W (DPost (deepS ds) W))) :
    Calls Tryz.prog 54 #[.agg #[.int .i64 0], .agg #[.int .i64 8, .int .i64 n, .string nm, .string f, .slice A m c]] w (DPost (chkOf 8 n nm f ds) w) := by
  obtain ⟨q, hq⟩ : ∃ q, q = chkOf 8 n nm f ds := ⟨_, rfl⟩
  rw [← hq]
  have HQ := Lib.hid hq; have HM := Lib.hid hm
  obtain ⟨bm, hbm⟩ : ∃ bm, bm = decide (m ≤ 512) := ⟨_, rfl⟩
  rw [← hbm] at HF
  have HBM := Lib.hid hbm
  obtain ⟨D, hD⟩ : ∃ D, D = deepS ds := ⟨_, rfl⟩
  rw [← hD] at HD
  have HDD := Lib.hid hD
  clear hD
  clear hq hm hbm
  have HK0 := Lib.hid (fun n' : Int => show Keep (fun _ => False) w ((w.alloc (.cells #[.int .i64 0] 109)).alloc (.cells #[.int .i64 8, .int .i64 n', .string nm, .string f, .slice A m c] 25)) from ((Keep.refl _ w).alloc _).alloc _)
  have HB0 := Lib.hid (fun n' : Int => show Blk ((w.alloc (.cells #[.int .i64 0] 109)).alloc (.cells #[.int .i64 8, .int .i64 n', .string nm, .string f, .slice A m c] 25)) w.heap.size #[.int .i64 0] 109 from (Blk.new w _ _).alloc _)
  have HB1 := Lib.hid (fun n' : Int => show Blk ((w.alloc (.cells #[.int .i64 0] 109)).alloc (.cells #[.int .i64 8, .int .i64 n', .string nm, .string f, .slice A m c] 25)) (w.heap.size + 1) #[.int .i64 8, .int .i64 n', .string nm, .string f, .slice A m c] 25 from Blk.new' (by simp) _ _)
  go_enter Tryz.func54, Tryz.ntmps54
  go_wp2_with fail
  all_goals first
    | (have hq0 : q = 0 := HQ.out.trans (by first | exact odd_f _ _ _ _ _ (by assumption) (by decide) | exact odd_nm _ _ _ _ _ (by assumption) (by decide) | exact odd_n _ _ _ _ _ (by assumption) (by decide))
       subst hq0
       go_ret
       exact ⟨rfl, (HK0.out _)⟩)
    | (refine (HF.out _).mono ?_
       rintro e w' ⟨rfl, rfl⟩
       cases bm with
       | false =>
         have hq0 : q = 0 := HQ.out.trans (odd_l _ _ _ _ _ (by have h := of_decide_eq_false HBM.out.symm; have := HM.out; omega))
         subst hq0
         go_wp2_with fail
         go_ret
         exact ⟨rfl, (HK0.out _)⟩
       | true =>
         have HE := Lib.hid (even_eq (ds := ds) (o := 8) (n := n) (nm := nm) (f := f) (by first | exact .inl (by assumption) | exact .inr (by first | rfl | decide)) (by first | exact .inl (by assumption) | exact .inr (by decide)) (by first | exact .inl (by assumption) | exact .inr (by decide)) (by have h := of_decide_eq_true HBM.out.symm; have := HM.out; omega))
         have HOK : Hid (okP 8 n nm f = true) := rfl
         by_cases hw : m = 1
         · have hq1 : q = D := by
             rw [HDD.out]; refine HQ.out.trans ((chk_gen HE.out (by decide) (by decide) (by decide)).trans (if_pos ⟨HOK.out, ?_⟩))
             rw [← HM.out, hw]; rfl
           have HQ1 := Lib.hid hq1
           have hw1 : ((m : Int) == 1) = true := by rw [beq_iff_eq]; omega
           clear hw hq1
           go_wp2_with fail
           refine (HD.out _ (HK0.out _)).mono ?_
           rintro e w3 ⟨rfl, hk3⟩
           have h3 := (HK0.out _).trans hk3
           rw [← HQ1.out]
           go_wp2_with fail
           go_ret
           exact ⟨rfl, h3⟩
         · have hq0 : q = 0 := HQ.out.trans ((chk_gen HE.out (by decide) (by decide) (by decide)).trans (if_neg (by rintro ⟨_, h⟩; apply hw; rw [HM.out, h]; rfl)))
           subst hq0
           have hw1 : ((m : Int) == 1) = false := by rw [beq_eq_false_iff_ne]; omega
           clear hw
           go_wp2_with fail
           go_ret
           exact ⟨rfl, (HK0.out _)⟩)
set_option maxRecDepth 100000 in
set_option maxHeartbeats 4000000 in
theorem ck9 (n : Int) (nm f : ByteArray) (ds : List Nat) (m : Nat) (hm : m = ds.length) (A : Option Addr) (c : Nat) (w : World)
    (HF : Hid (∀ W, Calls Tryz.prog 96 #[.slice A m c] W fun e w' => e = .returned (.bool (decide (m ≤ 512))) ∧ w' = W))
    (HD : Hid (∀ W, Keep (fun _ => False) w W → Calls Tryz.prog 99 #[.agg #[.int .i64 0], .slice A m c] W (DPost (deepS ds) W))) :
    Calls Tryz.prog 54 #[.agg #[.int .i64 0], .agg #[.int .i64 9, .int .i64 n, .string nm, .string f, .slice A m c]] w (DPost (chkOf 9 n nm f ds) w) := by
  obtain ⟨q, hq⟩ : ∃ q, q = chkOf 9 n nm f ds := ⟨_, rfl⟩
  rw [← hq]
  have HQ := Lib.hid hq; have HM := Lib.hid hm
  obtain ⟨bm, hbm⟩ : ∃ bm, bm = decide (m ≤ 512) := ⟨_, rfl⟩
  rw [← hbm] at HF
  have HBM := Lib.hid hbm
  obtain ⟨D, hD⟩ : ∃ D, D = deepS ds := ⟨_, rfl⟩
  rw [← hD] at HD
  have HDD := Lib.hid hD
  clear hD
  clear hq hm hbm
  have HK0 := Lib.hid (fun n' : Int => show Keep (fun _ => False) w ((w.alloc (.cells #[.int .i64 0] 109)).alloc (.cells #[.int .i64 9, .int .i64 n', .string nm, .string f, .slice A m c] 25)) from ((Keep.refl _ w).alloc _).alloc _)
  have HB0 := Lib.hid (fun n' : Int => show Blk ((w.alloc (.cells #[.int .i64 0] 109)).alloc (.cells #[.int .i64 9, .int .i64 n', .string nm, .string f, .slice A m c] 25)) w.heap.size #[.int .i64 0] 109 from (Blk.new w _ _).alloc _)
  have HB1 := Lib.hid (fun n' : Int => show Blk ((w.alloc (.cells #[.int .i64 0] 109)).alloc (.cells #[.int .i64 9, .int .i64 n', .string nm, .string f, .slice A m c] 25)) (w.heap.size + 1) #[.int .i64 9, .int .i64 n', .string nm, .string f, .slice A m c] 25 from Blk.new' (by simp) _ _)
  go_enter Tryz.func54, Tryz.ntmps54
  go_wp2_with fail
  all_goals first
    | (have hq0 : q = 0 := HQ.out.trans (by first | exact odd_f _ _ _ _ _ (by assumption) (by decide) | exact odd_nm _ _ _ _ _ (by assumption) (by decide) | exact odd_n _ _ _ _ _ (by assumption) (by decide))
       subst hq0
       go_ret
       exact ⟨rfl, (HK0.out _)⟩)
    | (refine (HF.out _).mono ?_
       rintro e w' ⟨rfl, rfl⟩
       cases bm with
       | false =>
         have hq0 : q = 0 := HQ.out.trans (odd_l _ _ _ _ _ (by have h := of_decide_eq_false HBM.out.symm; have := HM.out; omega))
         subst hq0
         go_wp2_with fail
         go_ret
         exact ⟨rfl, (HK0.out _)⟩
       | true =>
         have HE := Lib.hid (even_eq (ds := ds) (o := 9) (n := n) (nm := nm) (f := f) (by first | exact .inl (by assumption) | exact .inr (by first | rfl | decide)) (by first | exact .inl (by assumption) | exact .inr (by decide)) (by first | exact .inl (by assumption) | exact .inr (by decide)) (by have h := of_decide_eq_true HBM.out.symm; have := HM.out; omega))
         have HOK : Hid (okP 9 n nm f = true) := rfl
         by_cases hw : m = 1
         · have hq1 : q = D := by
             rw [HDD.out]; refine HQ.out.trans ((chk_gen HE.out (by decide) (by decide) (by decide)).trans (if_pos ⟨HOK.out, ?_⟩))
             rw [← HM.out, hw]; rfl
           have HQ1 := Lib.hid hq1
           have hw1 : ((m : Int) == 1) = true := by rw [beq_iff_eq]; omega
           clear hw hq1
           go_wp2_with fail
           refine (HD.out _ (HK0.out _)).mono ?_
           rintro e w3 ⟨rfl, hk3⟩
           have h3 := (HK0.out _).trans hk3
           rw [← HQ1.out]
           go_wp2_with fail
           go_ret
           exact ⟨rfl, h3⟩
         · have hq0 : q = 0 := HQ.out.trans ((chk_gen HE.out (by decide) (by decide) (by decide)).trans (if_neg (by rintro ⟨_, h⟩; apply hw; rw [HM.out, h]; rfl)))
           subst hq0
           have hw1 : ((m : Int) == 1) = false := by rw [beq_eq_false_iff_ne]; omega
           clear hw
           go_wp2_with fail
           go_ret
           exact ⟨rfl, (HK0.out _)⟩)
end Go.Proofs.YtgmmjhelcpgakaaGreatDoor
