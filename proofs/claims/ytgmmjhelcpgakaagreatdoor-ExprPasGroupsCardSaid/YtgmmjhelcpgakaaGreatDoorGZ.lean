/- Package tree: checker.expr, one kind of operation after the other (names). -/
import Derived.Test.YtgmmjhelcpgakaaGreatDoorGY
namespace Go.Proofs.YtgmmjhelcpgakaaGreatDoor
open Go.RowKit
set_option linter.unusedVariables false
set_option linter.unusedSimpArgs false

set_option maxRecDepth 100000 in
set_option maxHeartbeats 4000000 in
theorem ck4 (n : Int) (nm f : ByteArray) (ds : List Nat) (m : Nat) (hm : m = ds.length) (A : Option Addr) (c : Nat) (w : World)
    (HF : Hid (∀ W, Calls Tryz.prog 96 #[.slice A m c] W fun e w' => e = .returned (.bool (decide (m ≤ 512))) ∧ w' = W))
    (HN : Hid (∀ W, Keep (fun _ => False) w W → Calls Tryz.prog 97 #[.agg #[.int .i64 0], .string nm] W (BPostF (nameOK nm) W)))
    (HD : Hid (∀ W, Keep (fun _ => False) w W → Calls Tryz.prog 99 #[.agg #[.int .i64 0], .slice A m c] W (DPost (deepS ds) W))) :
    Calls Tryz.prog 54 #[.agg #[.int .i64 0], .agg #[.int .i64 4, .int .i64 n, .string nm, .string f, .slice A m c]] w (DPost (chkOf 4 n nm f ds) w) := by
  obtain ⟨q, hq⟩ : ∃ q, q = chkOf 4 n nm f ds := ⟨_, rfl⟩
  rw [← hq]
  have HQ := Lib.hid hq; have HM := Lib.hid hm
  obtain ⟨bm, hbm⟩ : ∃ bm, bm = decide (m ≤ 512) := ⟨_, rfl⟩
  rw [← hbm] at HF
  have HBM := Lib.hid hbm
  obtain ⟨D, hD⟩ : ∃ D, D = deepS ds := ⟨_, rfl⟩
  rw [← hD] at HD
  have HDD := Lib.hid hD
  clear hD
  obtain ⟨bn, hbn⟩ : ∃ bn, bn = nameOK nm := ⟨_, rfl⟩
  rw [← hbn] at HN
  have HBN := Lib.hid hbn
  clear hbn
  clear hq hm hbm
  have HK0 := Lib.hid (fun n' : Int => show Keep (fun _ => False) w ((w.alloc (.cells #[.int .i64 0] 109)).alloc (.cells #[.int .i64 4, .int .i64 n', .string nm, .string f, .slice A m c] 25)) from ((Keep.refl _ w).alloc _).alloc _)
  have HB0 := Lib.hid (fun n' : Int => show Blk ((w.alloc (.cells #[.int .i64 0] 109)).alloc (.cells #[.int .i64 4, .int .i64 n', .string nm, .string f, .slice A m c] 25)) w.heap.size #[.int .i64 0] 109 from (Blk.new w _ _).alloc _)
  have HB1 := Lib.hid (fun n' : Int => show Blk ((w.alloc (.cells #[.int .i64 0] 109)).alloc (.cells #[.int .i64 4, .int .i64 n', .string nm, .string f, .slice A m c] 25)) (w.heap.size + 1) #[.int .i64 4, .int .i64 n', .string nm, .string f, .slice A m c] 25 from Blk.new' (by simp) _ _)
  go_enter Tryz.func54, Tryz.ntmps54
  go_wp2_with fail
  all_goals first
    | (have hq0 : q = 0 := HQ.out.trans (by first | exact odd_f _ _ _ _ _ (by assumption) (by decide) | exact odd_n _ _ _ _ _ (by assumption) (by decide))
       subst hq0
       go_ret
       exact ⟨rfl, (HK0.out _)⟩)
    | (refine (HF.out _).mono ?_
       rintro e w' ⟨rfl, rfl⟩
       cases bm with
       | false =>
         have hq0 : q = 0 := HQ.out.trans (odd_l _ _ _ _ _ (by have h := of_decide_eq_false HBM.out.symm; have := HM.out; omega))
         subst hq0
         go_wp2_with fail
         go_ret
         exact ⟨rfl, (HK0.out _)⟩
       | true =>
         have HE := Lib.hid (even_eq (ds := ds) (o := 4) (n := n) (nm := nm) (f := f) (by first | exact .inl (by assumption) | exact .inr (by first | rfl | decide)) (by first | exact .inl (by assumption) | exact .inr (by decide)) (by first | exact .inl (by assumption) | exact .inr (by decide)) (by have h := of_decide_eq_true HBM.out.symm; have := HM.out; omega))
         go_wp2_with fail
         refine (HN.out _ (HK0.out _)).mono ?_
         rintro e w2 ⟨rfl, hk2⟩
         have HK2 := Lib.hid ((HK0.out _).trans hk2)
         have p0 := (hk2.blk (HB0.out _) (fun h => h)).at_ 0 (v := .int .i64 0) rfl
         have pl0 := (hk2.blk (HB0.out _) (fun h => h)).lt
         have p1 := (hk2.blk (HB1.out _) (fun h => h)).all5
         have pl1 := (hk2.blk (HB1.out _) (fun h => h)).lt
         clear hk2
         cases bn with
         | false =>
           have HOK : Hid (okP 4 n nm f = false) := HBN.out.symm
           have hq0 : q = 0 := HQ.out.trans ((chk_gen HE.out (by decide) (by decide) (by decide)).trans (if_neg (by rintro ⟨h, _⟩; rw [HOK.out] at h; cases h)))
           subst hq0
           go_wp2_with fail
           go_ret
           exact ⟨rfl, by (first | exact HK2.out | exact HK1.out | exact (HK0.out _))⟩
         | true =>
           have HOK : Hid (okP 4 n nm f = true) := HBN.out.symm
           by_cases hw : m = 0
           · have hq1 : q = D := by
               rw [HDD.out]; refine HQ.out.trans ((chk_gen HE.out (by decide) (by decide) (by decide)).trans (if_pos ⟨HOK.out, ?_⟩))
               rw [← HM.out, hw]; rfl
             have HQ1 := Lib.hid hq1
             have hw1 : ((m : Int) == 0) = true := by rw [beq_iff_eq]; omega
             clear hw hq1
             go_wp2_with fail
             refine (HD.out _ HK2.out).mono ?_
             rintro e w3 ⟨rfl, hk3⟩
             have h3 := HK2.out.trans hk3
             rw [← HQ1.out]
             go_wp2_with fail
             go_ret
             exact ⟨rfl, h3⟩
           · have hq0 : q = 0 := HQ.out.trans ((chk_gen HE.out (by decide) (by decide) (by decide)).trans (if_neg (by rintro ⟨_, h⟩; apply hw; rw [HM.out, h]; rfl)))
             subst hq0
             have hw1 : ((m : Int) == 0) = false := by rw [beq_eq_false_iff_ne]; omega
             clear hw
             go_wp2_with fail
             go_ret
             exact ⟨rfl, HK2.out⟩)
set_option maxRecDepth 100000 in
set_option maxHeartbeats 4000000 in
theorem ck5 (n : Int) (nm f : ByteArray) (ds : List Nat) (m : Nat) (hm : m = ds.length) (A : Option Addr) (c : Nat) (w : World)
    (HF : Hid (∀ W, Calls Tryz.prog 96 #[.slice A m c] W fun e w' => e = .returned (.bool (decide (m ≤ 512))) ∧ w' = W))
    (HN : Hid (∀ W, Keep (fun _ => False) w W → Calls Tryz.prog 97 #[.agg #[.int .i64 0], .string nm] W (BPostF (nameOK nm) W)))
    (HD : Hid (∀ W, Keep (fun _ => False) w W → Calls Tryz.prog 99 #[.agg #[.int .i64 0], .slice A m c] W (DPost (deepS ds) W))) :
    Calls Tryz.prog 54 #[.agg #[.int .i64 0], .agg #[.int .i64 5, .int .i64 n, .string nm, .string f, .slice A m c]] w (DPost (chkOf 5 n nm f ds) w) := by
  obtain ⟨q, hq⟩ : ∃ q, q = chkOf 5 n nm f ds := ⟨_, rfl⟩
  rw [← hq]
  have HQ := Lib.hid hq; have HM := Lib.hid hm
  obtain ⟨bm, hbm⟩ : ∃ bm, bm = decide (m ≤ 512) := ⟨_, rfl⟩
  rw [← hbm] at HF
  have HBM := Lib.hid hbm
  obtain ⟨D, hD⟩ : ∃ D, D = deepS ds := ⟨_, rfl⟩
  rw [← hD] at HD
  have HDD := Lib.hid hD
  clear hD
  obtain ⟨bn, hbn⟩ : ∃ bn, bn = nameOK nm := ⟨_, rfl⟩
  rw [← hbn] at HN
  have HBN := Lib.hid hbn
  clear hbn
  clear hq hm hbm
  have HK0 := Lib.hid (fun n' : Int => show Keep (fun _ => False) w ((w.alloc (.cells #[.int .i64 0] 109)).alloc (.cells #[.int .i64 5, .int .i64 n', .string nm, .string f, .slice A m c] 25)) from ((Keep.refl _ w).alloc _).alloc _)
  have HB0 := Lib.hid (fun n' : Int => show Blk ((w.alloc (.cells #[.int .i64 0] 109)).alloc (.cells #[.int .i64 5, .int .i64 n', .string nm, .string f, .slice A m c] 25)) w.heap.size #[.int .i64 0] 109 from (Blk.new w _ _).alloc _)
  have HB1 := Lib.hid (fun n' : Int => show Blk ((w.alloc (.cells #[.int .i64 0] 109)).alloc (.cells #[.int .i64 5, .int .i64 n', .string nm, .string f, .slice A m c] 25)) (w.heap.size + 1) #[.int .i64 5, .int .i64 n', .string nm, .string f, .slice A m c] 25 from Blk.new' (by simp) _ _)
  go_enter Tryz.func54, Tryz.ntmps54
  go_wp2_with fail
  all_goals first
    | (have hq0 : q = 0 := HQ.out.trans (by first | exact odd_f _ _ _ _ _ (by assumption) (by decide) | exact odd_n _ _ _ _ _ (by assumption) (by decide))
       subst hq0
       go_ret
       exact ⟨rfl, (HK0.out _)⟩)
    | (refine (HF.out _).mono ?_
       rintro e w' ⟨rfl, rfl⟩
       cases bm with
       | false =>
         have hq0 : q = 0 := HQ.out.trans (odd_l _ _ _ _ _ (by have h := of_decide_eq_false HBM.out.symm; have := HM.out; omega))
         subst hq0
         go_wp2_with fail
         go_ret
         exact ⟨rfl, (HK0.out _)⟩
       | true =>
         have HE := Lib.hid (even_eq (ds := ds) (o := 5) (n := n) (nm := nm) (f := f) (by first | exact .inl (by assumption) | exact .inr (by first | rfl | decide)) (by first | exact .inl (by assumption) | exact .inr (by decide)) (by first | exact .inl (by assumption) | exact .inr (by decide)) (by have h := of_decide_eq_true HBM.out.symm; have := HM.out; omega))
         go_wp2_with fail
         refine (HN.out _ (HK0.out _)).mono ?_
         rintro e w2 ⟨rfl, hk2⟩
         have HK2 := Lib.hid ((HK0.out _).trans hk2)
         have p0 := (hk2.blk (HB0.out _) (fun h => h)).at_ 0 (v := .int .i64 0) rfl
         have pl0 := (hk2.blk (HB0.out _) (fun h => h)).lt
         have p1 := (hk2.blk (HB1.out _) (fun h => h)).all5
         have pl1 := (hk2.blk (HB1.out _) (fun h => h)).lt
         clear hk2
         cases bn with
         | false =>
           have HOK : Hid (okP 5 n nm f = false) := HBN.out.symm
           have hq0 : q = 0 := HQ.out.trans ((chk_gen HE.out (by decide) (by decide) (by decide)).trans (if_neg (by rintro ⟨h, _⟩; rw [HOK.out] at h; cases h)))
           subst hq0
           go_wp2_with fail
           go_ret
           exact ⟨rfl, by (first | exact HK2.out | exact HK1.out | exact (HK0.out _))⟩
         | true =>
           have HOK : Hid (okP 5 n nm f = true) := HBN.out.symm
           by_cases hw : m = 1
           · have hq1 : q = D := by
               rw [HDD.out]; refine HQ.out.trans ((chk_gen HE.out (by decide) (by decide) (by decide)).trans (if_pos ⟨HOK.out, ?_⟩))
               rw [← HM.out, hw]; rfl
             have HQ1 := Lib.hid hq1
             have hw1 : ((m : Int) == 1) = true := by rw [beq_iff_eq]; omega
             clear hw hq1
             go_wp2_with fail
             refine (HD.out _ HK2.out).mono ?_
             rintro e w3 ⟨rfl, hk3⟩
             have h3 := HK2.out.trans hk3
             rw [← HQ1.out]
             go_wp2_with fail
             go_ret
             exact ⟨rfl, h3⟩
           · have hq0 : q = 0 := HQ.out.trans ((chk_gen HE.out (by decide) (by decide) (by decide)).trans (if_neg (by rintro ⟨_, h⟩; apply hw; rw [HM.out, h]; rfl)))
             subst hq0
             have hw1 : ((m : Int) == 1) = false := by rw [beq_eq_false_iff_ne]; omega
             clear hw
             go_wp2_with fail
             go_ret
             exact ⟨rfl, HK2.out⟩)
set_option maxRecDepth 100000 in
set_option maxHeartbeats 4000000 in
theorem ck6 (n : Int) (nm f : ByteArray) (ds : List Nat) (m : Nat) (hm : m = ds.length) (A : Option Addr) (c : Nat) (w : World)
    (HF : Hid (∀ W, Calls Tryz.prog 96 #[.slice A m c] W fun e w' => e = .returned (.bool (decide (m ≤ 512))) ∧ w' = W))
    (HN : Hid (∀ W, Keep (fun _ => False) w W → Calls Tryz.prog 97 #[.agg #[.int .i64 0], .string nm] W (BPostF (nameOK nm) W)))
    (HNF : Hid (∀ W, Keep (fun _ => False) w W → Calls Tryz.prog 97 #[.agg #[.int .i64 0], .string f] W (BPostF (nameOK f) W)))
    (HD : Hid (∀ W, Keep (fun _ => False) w W → Calls Tryz.prog 99 #[.agg #[.int .i64 0], .slice A m c] W (DPost (deepS ds) W))) :
    Calls Tryz.prog 54 #[.agg #[.int .i64 0], .agg #[.int .i64 6, .int .i64 n, .string nm, .string f, .slice A m c]] w (DPost (chkOf 6 n nm f ds) w) := by
  obtain ⟨q, hq⟩ : ∃ q, q = chkOf 6 n nm f ds := ⟨_, rfl⟩
  rw [← hq]
  have HQ := Lib.hid hq; have HM := Lib.hid hm
  obtain ⟨bm, hbm⟩ : ∃ bm, bm = decide (m ≤ 512) := ⟨_, rfl⟩
  rw [← hbm] at HF
  have HBM := Lib.hid hbm
  obtain ⟨D, hD⟩ : ∃ D, D = deepS ds := ⟨_, rfl⟩
  rw [← hD] at HD
  have HDD := Lib.hid hD
  clear hD
  obtain ⟨bn, hbn⟩ : ∃ bn, bn = nameOK nm := ⟨_, rfl⟩
  rw [← hbn] at HN
  have HBN := Lib.hid hbn
  clear hbn
  obtain ⟨bf, hbf⟩ : ∃ bf, bf = nameOK f := ⟨_, rfl⟩
  rw [← hbf] at HNF
  have HBF := Lib.hid hbf
  clear hbf
  clear hq hm hbm
  have HK0 := Lib.hid (fun n' : Int => show Keep (fun _ => False) w ((w.alloc (.cells #[.int .i64 0] 109)).alloc (.cells #[.int .i64 6, .int .i64 n', .string nm, .string f, .slice A m c] 25)) from ((Keep.refl _ w).alloc _).alloc _)
  have HB0 := Lib.hid (fun n' : Int => show Blk ((w.alloc (.cells #[.int .i64 0] 109)).alloc (.cells #[.int .i64 6, .int .i64 n', .string nm, .string f, .slice A m c] 25)) w.heap.size #[.int .i64 0] 109 from (Blk.new w _ _).alloc _)
  have HB1 := Lib.hid (fun n' : Int => show Blk ((w.alloc (.cells #[.int .i64 0] 109)).alloc (.cells #[.int .i64 6, .int .i64 n', .string nm, .string f, .slice A m c] 25)) (w.heap.size + 1) #[.int .i64 6, .int .i64 n', .string nm, .string f, .slice A m c] 25 from Blk.new' (by simp) _ _)
  go_enter Tryz.func54, Tryz.ntmps54
  go_wp2_with fail
  all_goals first
    | (have hq0 : q = 0 := HQ.out.trans (by first | exact odd_n _ _ _ _ _ (by assumption) (by decide))
       subst hq0
       go_ret
       exact ⟨rfl, (HK0.out _)⟩)
    | (refine (HF.out _).mono ?_
       rintro e w' ⟨rfl, rfl⟩
       cases bm with
       | false =>
         have hq0 : q = 0 := HQ.out.trans (odd_l _ _ _ _ _ (by have h := of_decide_eq_false HBM.out.symm; have := HM.out; omega))
         subst hq0
         go_wp2_with fail
         go_ret
         exact ⟨rfl, (HK0.out _)⟩
       | true =>
         have HE := Lib.hid (even_eq (ds := ds) (o := 6) (n := n) (nm := nm) (f := f) (by first | exact .inl (by assumption) | exact .inr (by first | rfl | decide)) (by first | exact .inl (by assumption) | exact .inr (by decide)) (by first | exact .inl (by assumption) | exact .inr (by decide)) (by have h := of_decide_eq_true HBM.out.symm; have := HM.out; omega))
         go_wp2_with fail
         refine (HN.out _ (HK0.out _)).mono ?_
         rintro e w1 ⟨rfl, hk1⟩
         have HK1 := Lib.hid ((HK0.out _).trans hk1)
         have p0 := (hk1.blk (HB0.out _) (fun h => h)).at_ 0 (v := .int .i64 0) rfl
         have pl0 := (hk1.blk (HB0.out _) (fun h => h)).lt
         have p1 := (hk1.blk (HB1.out _) (fun h => h)).all5
         have pl1 := (hk1.blk (HB1.out _) (fun h => h)).lt
         have HB0' := Lib.hid (hk1.blk (HB0.out _) (fun h => h)); have HB1' := Lib.hid (hk1.blk (HB1.out _) (fun h => h))
         clear hk1
         cases bn with
         | false =>
           have HOK : Hid (okP 6 n nm f = false) := (show (nameOK nm && nameOK f) = false by rw [← HBN.out]; rfl)
           have hq0 : q = 0 := HQ.out.trans ((chk_gen HE.out (by decide) (by decide) (by decide)).trans (if_neg (by rintro ⟨h, _⟩; rw [HOK.out] at h; cases h)))
           subst hq0
           go_wp2_with fail
           go_ret
           exact ⟨rfl, by (first | exact HK2.out | exact HK1.out | exact (HK0.out _))⟩
         | true =>
           go_wp2_with fail
           refine (HNF.out _ HK1.out).mono ?_
           rintro e w2 ⟨rfl, hk2⟩
           have HK2 := Lib.hid (HK1.out.trans hk2)
           clear p0 pl0 p1 pl1
           have p0 := (hk2.blk HB0'.out (fun h => h)).at_ 0 (v := .int .i64 0) rfl
           have pl0 := (hk2.blk HB0'.out (fun h => h)).lt
           have p1 := (hk2.blk HB1'.out (fun h => h)).all5
           have pl1 := (hk2.blk HB1'.out (fun h => h)).lt
           clear hk2
           cases bf with
           | false =>
             have HOK : Hid (okP 6 n nm f = false) := (show (nameOK nm && nameOK f) = false by rw [← HBN.out, ← HBF.out]; rfl)
             have hq0 : q = 0 := HQ.out.trans ((chk_gen HE.out (by decide) (by decide) (by decide)).trans (if_neg (by rintro ⟨h, _⟩; rw [HOK.out] at h; cases h)))
             subst hq0
             go_wp2_with fail
             go_ret
             exact ⟨rfl, by (first | exact HK2.out | exact HK1.out | exact (HK0.out _))⟩
           | true =>
             have HOK : Hid (okP 6 n nm f = true) := (show (nameOK nm && nameOK f) = true by rw [← HBN.out, ← HBF.out]; rfl)
             by_cases hw : m = 0
             · have hq1 : q = D := by
                 rw [HDD.out]; refine HQ.out.trans ((chk_gen HE.out (by decide) (by decide) (by decide)).trans (if_pos ⟨HOK.out, ?_⟩))
                 rw [← HM.out, hw]; rfl
               have HQ1 := Lib.hid hq1
               have hw1 : ((m : Int) == 0) = true := by rw [beq_iff_eq]; omega
               clear hw hq1
               go_wp2_with fail
               refine (HD.out _ HK2.out).mono ?_
               rintro e w3 ⟨rfl, hk3⟩
               have h3 := HK2.out.trans hk3
               rw [← HQ1.out]
               go_wp2_with fail
               go_ret
               exact ⟨rfl, h3⟩
             · have hq0 : q = 0 := HQ.out.trans ((chk_gen HE.out (by decide) (by decide) (by decide)).trans (if_neg (by rintro ⟨_, h⟩; apply hw; rw [HM.out, h]; rfl)))
               subst hq0
               have hw1 : ((m : Int) == 0) = false := by rw [beq_eq_false_iff_ne]; omega
               clear hw
               go_wp2_with fail
               go_ret
               exact ⟨rfl, HK2.out⟩)
end Go.Proofs.YtgmmjhelcpgakaaGreatDoor
