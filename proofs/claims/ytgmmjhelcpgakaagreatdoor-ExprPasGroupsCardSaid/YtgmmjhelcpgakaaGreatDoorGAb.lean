/- Package tree: checker.expr, one kind of operation after the other (signs of two operands, others). -/
import Derived.Test.YtgmmjhelcpgakaaGreatDoorGY
namespace Go.Proofs.YtgmmjhelcpgakaaGreatDoor
open Go.RowKit
set_option linter.unusedVariables false
set_option linter.unusedSimpArgs false

set_option maxRecDepth 100000 in
set_option maxHeartbeats 4000000 in
theorem ckR (o : Int) (h10 : 10 ≤ o) (h24 : o ≤ 24) (n : Int) (nm f : ByteArray) (ds : List Nat) (m : Nat) (hm : m = ds.length) (A : Option Addr) (c : Nat) (w : World)
    (HF : Hid (∀ W, Calls Tryz.prog 96 #[.slice A m c] W fun e w' => e = .returned (.bool (decide (m ≤ 512))) ∧ w' = W))
    (HD : Hid (∀ W, Keep (fun _ => False) w W → Calls Tryz.prog 99 #[.agg #[.int .i64 0], .slice A m c] W (DPost (deepS ds) W))) :
    Calls Tryz.prog 54 #[.agg #[.int .i64 0], .agg #[.int .i64 o, .int .i64 n, .string nm, .string f, .slice A m c]] w (DPost (chkOf o n nm f ds) w) := by
  obtain ⟨q, hq⟩ : ∃ q, q = chkOf o n nm f ds := ⟨_, rfl⟩
  rw [← hq]
  have HQ := Lib.hid hq; have HM := Lib.hid hm
  obtain ⟨bm, hbm⟩ : ∃ bm, bm = decide (m ≤ 512) := ⟨_, rfl⟩
  rw [← hbm] at HF
  have HBM := Lib.hid hbm
  obtain ⟨D, hD⟩ : ∃ D, D = deepS ds := ⟨_, rfl⟩
  rw [← hD] at HD
  have HDD := Lib.hid hD
  clear hD
  clear hq hm hbm
  have e1 : (o == 1) = false := by rw [beq_eq_false_iff_ne]; omega
  have e2 : (o == 2) = false := by rw [beq_eq_false_iff_ne]; omega
  have e3 : (o == 3) = false := by rw [beq_eq_false_iff_ne]; omega
  have e4 : (o == 4) = false := by rw [beq_eq_false_iff_ne]; omega
  have e5 : (o == 5) = false := by rw [beq_eq_false_iff_ne]; omega
  have e6 : (o == 6) = false := by rw [beq_eq_false_iff_ne]; omega
  have e7 : (o == 7) = false := by rw [beq_eq_false_iff_ne]; omega
  have e8 : (o == 8) = false := by rw [beq_eq_false_iff_ne]; omega
  have e9 : (o == 9) = false := by rw [beq_eq_false_iff_ne]; omega
  have m6 : ¬ o = 6 := by omega
  have m6b : (o != 6) = true := by simpa using m6
  have g1 : decide (1 ≤ o) = true := by simp; omega
  have g4 : decide (4 ≤ o) = true := by simp; omega
  have g10 : decide (10 ≤ o) = true := by simp; omega
  have l3 : decide (o ≤ 3) = false := by simp; omega
  have l7 : decide (o ≤ 7) = false := by simp; omega
  have l24 : decide (o ≤ 24) = true := by simp; omega
  have HO := Lib.hid (show 10 ≤ o ∧ o ≤ 24 by omega)
  clear h10 h24
  have HK0 := Lib.hid (fun n' : Int => show Keep (fun _ => False) w ((w.alloc (.cells #[.int .i64 0] 109)).alloc (.cells #[.int .i64 o, .int .i64 n', .string nm, .string f, .slice A m c] 25)) from ((Keep.refl _ w).alloc _).alloc _)
  have HB0 := Lib.hid (fun n' : Int => show Blk ((w.alloc (.cells #[.int .i64 0] 109)).alloc (.cells #[.int .i64 o, .int .i64 n', .string nm, .string f, .slice A m c] 25)) w.heap.size #[.int .i64 0] 109 from (Blk.new w _ _).alloc _)
  have HB1 := Lib.hid (fun n' : Int => show Blk ((w.alloc (.cells #[.int .i64 0] 109)).alloc (.cells #[.int .i64 o, .int .i64 n', .string nm, .string f, .slice A m c] 25)) (w.heap.size + 1) #[.int .i64 o, .int .i64 n', .string nm, .string f, .slice A m c] 25 from Blk.new' (by simp) _ _)
  go_enter Tryz.func54, Tryz.ntmps54
  go_wp2_with fail
  all_goals first
    | (have hq0 : q = 0 := HQ.out.trans (by first | exact odd_f _ _ _ _ _ (by assumption) (by have := HO.out; omega) | exact odd_nm _ _ _ _ _ (by assumption) (by have := HO.out; omega) | exact odd_n _ _ _ _ _ (by assumption) (by have := HO.out; omega))
       subst hq0
       go_ret
       exact ⟨rfl, (HK0.out _)⟩)
    | (refine (HF.out _).mono ?_
       rintro e w' ⟨rfl, rfl⟩
       cases bm with
       | false =>
         have hq0 : q = 0 := HQ.out.trans (odd_l _ _ _ _ _ (by have h := of_decide_eq_false HBM.out.symm; have := HM.out; omega))
         subst hq0
         go_wp2_with fail
         go_ret
         exact ⟨rfl, (HK0.out _)⟩
       | true =>
         have HE := Lib.hid (even_eq (ds := ds) (o := o) (n := n) (nm := nm) (f := f) (by first | exact .inl (by assumption) | exact .inr (by first | rfl | decide)) (by first | exact .inl (by assumption) | exact .inr (by decide)) (by first | exact .inl (by assumption) | exact .inr (by decide)) (by have h := of_decide_eq_true HBM.out.symm; have := HM.out; omega))
         have HOK : Hid (okP o n nm f = true) := (by show okP o n nm f = true; unfold okP; have := HO.out; rw [if_neg (by omega), if_neg (by omega), if_neg (by omega), if_neg (by omega), if_neg (by omega)])
         by_cases hw : m = 2
         · have hq1 : q = D := by
             rw [HDD.out]; refine HQ.out.trans ((chk_gen HE.out (by have := HO.out; omega) (by have := HO.out; omega) (by have := HO.out; omega)).trans (if_pos ⟨HOK.out, ?_⟩))
             rw [← HM.out, hw]; unfold wantP; rw [if_neg (by have := HO.out; omega), if_pos HO.out]
           have HQ1 := Lib.hid hq1
           have hw1 : ((m : Int) == 2) = true := by rw [beq_iff_eq]; omega
           clear hw hq1
           go_wp2_with fail
           refine (HD.out _ (HK0.out _)).mono ?_
           rintro e w3 ⟨rfl, hk3⟩
           have h3 := (HK0.out _).trans hk3
           rw [← HQ1.out]
           go_wp2_with fail
           go_ret
           exact ⟨rfl, h3⟩
         · have hq0 : q = 0 := HQ.out.trans ((chk_gen HE.out (by have := HO.out; omega) (by have := HO.out; omega) (by have := HO.out; omega)).trans (if_neg (by rintro ⟨_, h⟩; apply hw; rw [HM.out, h]; unfold wantP; rw [if_neg (by have := HO.out; omega), if_pos HO.out])))
           subst hq0
           have hw1 : ((m : Int) == 2) = false := by rw [beq_eq_false_iff_ne]; omega
           clear hw
           go_wp2_with fail
           go_ret
           exact ⟨rfl, (HK0.out _)⟩)
set_option maxRecDepth 100000 in
set_option maxHeartbeats 4000000 in
theorem ckL (o : Int) (h0 : o < 1) (n : Int) (nm f : ByteArray) (ds : List Nat) (m : Nat) (hm : m = ds.length) (A : Option Addr) (c : Nat) (w : World)
    (HF : Hid (∀ W, Calls Tryz.prog 96 #[.slice A m c] W fun e w' => e = .returned (.bool (decide (m ≤ 512))) ∧ w' = W)) :
    Calls Tryz.prog 54 #[.agg #[.int .i64 0], .agg #[.int .i64 o, .int .i64 n, .string nm, .string f, .slice A m c]] w (DPost (chkOf o n nm f ds) w) := by
  obtain ⟨q, hq⟩ : ∃ q, q = chkOf o n nm f ds := ⟨_, rfl⟩
  rw [← hq]
  have HQ := Lib.hid hq; have HM := Lib.hid hm
  obtain ⟨bm, hbm⟩ : ∃ bm, bm = decide (m ≤ 512) := ⟨_, rfl⟩
  rw [← hbm] at HF
  have HBM := Lib.hid hbm
  clear hq hm hbm
  have e1 : (o == 1) = false := by rw [beq_eq_false_iff_ne]; omega
  have e2 : (o == 2) = false := by rw [beq_eq_false_iff_ne]; omega
  have e3 : (o == 3) = false := by rw [beq_eq_false_iff_ne]; omega
  have e4 : (o == 4) = false := by rw [beq_eq_false_iff_ne]; omega
  have e5 : (o == 5) = false := by rw [beq_eq_false_iff_ne]; omega
  have e6 : (o == 6) = false := by rw [beq_eq_false_iff_ne]; omega
  have e7 : (o == 7) = false := by rw [beq_eq_false_iff_ne]; omega
  have e8 : (o == 8) = false := by rw [beq_eq_false_iff_ne]; omega
  have e9 : (o == 9) = false := by rw [beq_eq_false_iff_ne]; omega
  have m6 : ¬ o = 6 := by omega
  have m6b : (o != 6) = true := by simpa using m6
  have g1 : decide (1 ≤ o) = false := by simp; omega
  have g4 : decide (4 ≤ o) = false := by simp; omega
  have g10 : decide (10 ≤ o) = false := by simp; omega
  have HO := Lib.hid (show o < 1 by omega)
  clear h0
  have HK0 := Lib.hid (fun n' : Int => show Keep (fun _ => False) w ((w.alloc (.cells #[.int .i64 0] 109)).alloc (.cells #[.int .i64 o, .int .i64 n', .string nm, .string f, .slice A m c] 25)) from ((Keep.refl _ w).alloc _).alloc _)
  have HB0 := Lib.hid (fun n' : Int => show Blk ((w.alloc (.cells #[.int .i64 0] 109)).alloc (.cells #[.int .i64 o, .int .i64 n', .string nm, .string f, .slice A m c] 25)) w.heap.size #[.int .i64 0] 109 from (Blk.new w _ _).alloc _)
  have HB1 := Lib.hid (fun n' : Int => show Blk ((w.alloc (.cells #[.int .i64 0] 109)).alloc (.cells #[.int .i64 o, .int .i64 n', .string nm, .string f, .slice A m c] 25)) (w.heap.size + 1) #[.int .i64 o, .int .i64 n', .string nm, .string f, .slice A m c] 25 from Blk.new' (by simp) _ _)
  go_enter Tryz.func54, Tryz.ntmps54
  go_wp2_with fail
  all_goals first
    | (have hq0 : q = 0 := HQ.out.trans (by first | exact odd_f _ _ _ _ _ (by assumption) (by have := HO.out; omega) | exact odd_nm _ _ _ _ _ (by assumption) (by have := HO.out; omega) | exact odd_n _ _ _ _ _ (by assumption) (by have := HO.out; omega))
       subst hq0
       go_ret
       exact ⟨rfl, (HK0.out _)⟩)
    | (refine (HF.out _).mono ?_
       rintro e w' ⟨rfl, rfl⟩
       cases bm with
       | false =>
         have hq0 : q = 0 := HQ.out.trans (odd_l _ _ _ _ _ (by have h := of_decide_eq_false HBM.out.symm; have := HM.out; omega))
         subst hq0
         go_wp2_with fail
         go_ret
         exact ⟨rfl, (HK0.out _)⟩
       | true =>
         have HE := Lib.hid (even_eq (ds := ds) (o := o) (n := n) (nm := nm) (f := f) (by first | exact .inl (by assumption) | exact .inr (by first | rfl | decide)) (by first | exact .inl (by assumption) | exact .inr (by decide)) (by first | exact .inl (by assumption) | exact .inr (by decide)) (by have h := of_decide_eq_true HBM.out.symm; have := HM.out; omega))
         have hq0 : q = 0 := HQ.out.trans (chk_out (.inl HO.out))
         subst hq0
         go_wp2_with fail
         go_ret
         exact ⟨rfl, by (first | exact HK2.out | exact HK1.out | exact (HK0.out _))⟩)
set_option maxRecDepth 100000 in
set_option maxHeartbeats 4000000 in
theorem ckH (o : Int) (h25 : 24 < o) (n : Int) (nm f : ByteArray) (ds : List Nat) (m : Nat) (hm : m = ds.length) (A : Option Addr) (c : Nat) (w : World)
    (HF : Hid (∀ W, Calls Tryz.prog 96 #[.slice A m c] W fun e w' => e = .returned (.bool (decide (m ≤ 512))) ∧ w' = W)) :
    Calls Tryz.prog 54 #[.agg #[.int .i64 0], .agg #[.int .i64 o, .int .i64 n, .string nm, .string f, .slice A m c]] w (DPost (chkOf o n nm f ds) w) := by
  obtain ⟨q, hq⟩ : ∃ q, q = chkOf o n nm f ds := ⟨_, rfl⟩
  rw [← hq]
  have HQ := Lib.hid hq; have HM := Lib.hid hm
  obtain ⟨bm, hbm⟩ : ∃ bm, bm = decide (m ≤ 512) := ⟨_, rfl⟩
  rw [← hbm] at HF
  have HBM := Lib.hid hbm
  clear hq hm hbm
  have e1 : (o == 1) = false := by rw [beq_eq_false_iff_ne]; omega
  have e2 : (o == 2) = false := by rw [beq_eq_false_iff_ne]; omega
  have e3 : (o == 3) = false := by rw [beq_eq_false_iff_ne]; omega
  have e4 : (o == 4) = false := by rw [beq_eq_false_iff_ne]; omega
  have e5 : (o == 5) = false := by rw [beq_eq_false_iff_ne]; omega
  have e6 : (o == 6) = false := by rw [beq_eq_false_iff_ne]; omega
  have e7 : (o == 7) = false := by rw [beq_eq_false_iff_ne]; omega
  have e8 : (o == 8) = false := by rw [beq_eq_false_iff_ne]; omega
  have e9 : (o == 9) = false := by rw [beq_eq_false_iff_ne]; omega
  have m6 : ¬ o = 6 := by omega
  have m6b : (o != 6) = true := by simpa using m6
  have g1 : decide (1 ≤ o) = true := by simp; omega
  have g4 : decide (4 ≤ o) = true := by simp; omega
  have g10 : decide (10 ≤ o) = true := by simp; omega
  have l3 : decide (o ≤ 3) = false := by simp; omega
  have l7 : decide (o ≤ 7) = false := by simp; omega
  have l24 : decide (o ≤ 24) = false := by simp; omega
  have HO := Lib.hid (show 24 < o by omega)
  clear h25
  have HK0 := Lib.hid (fun n' : Int => show Keep (fun _ => False) w ((w.alloc (.cells #[.int .i64 0] 109)).alloc (.cells #[.int .i64 o, .int .i64 n', .string nm, .string f, .slice A m c] 25)) from ((Keep.refl _ w).alloc _).alloc _)
  have HB0 := Lib.hid (fun n' : Int => show Blk ((w.alloc (.cells #[.int .i64 0] 109)).alloc (.cells #[.int .i64 o, .int .i64 n', .string nm, .string f, .slice A m c] 25)) w.heap.size #[.int .i64 0] 109 from (Blk.new w _ _).alloc _)
  have HB1 := Lib.hid (fun n' : Int => show Blk ((w.alloc (.cells #[.int .i64 0] 109)).alloc (.cells #[.int .i64 o, .int .i64 n', .string nm, .string f, .slice A m c] 25)) (w.heap.size + 1) #[.int .i64 o, .int .i64 n', .string nm, .string f, .slice A m c] 25 from Blk.new' (by simp) _ _)
  go_enter Tryz.func54, Tryz.ntmps54
  go_wp2_with fail
  all_goals first
    | (have hq0 : q = 0 := HQ.out.trans (by first | exact odd_f _ _ _ _ _ (by assumption) (by have := HO.out; omega) | exact odd_nm _ _ _ _ _ (by assumption) (by have := HO.out; omega) | exact odd_n _ _ _ _ _ (by assumption) (by have := HO.out; omega))
       subst hq0
       go_ret
       exact ⟨rfl, (HK0.out _)⟩)
    | (refine (HF.out _).mono ?_
       rintro e w' ⟨rfl, rfl⟩
       cases bm with
       | false =>
         have hq0 : q = 0 := HQ.out.trans (odd_l _ _ _ _ _ (by have h := of_decide_eq_false HBM.out.symm; have := HM.out; omega))
         subst hq0
         go_wp2_with fail
         go_ret
         exact ⟨rfl, (HK0.out _)⟩
       | true =>
         have HE := Lib.hid (even_eq (ds := ds) (o := o) (n := n) (nm := nm) (f := f) (by first | exact .inl (by assumption) | exact .inr (by first | rfl | decide)) (by first | exact .inl (by assumption) | exact .inr (by decide)) (by first | exact .inl (by assumption) | exact .inr (by decide)) (by have h := of_decide_eq_true HBM.out.symm; have := HM.out; omega))
         have hq0 : q = 0 := HQ.out.trans (chk_out (.inr HO.out))
         subst hq0
         go_wp2_with fail
         go_ret
         exact ⟨rfl, by (first | exact HK2.out | exact HK1.out | exact (HK0.out _))⟩)
end Go.Proofs.YtgmmjhelcpgakaaGreatDoor
