/- Package tree: checker.expr, one kind of operation after the other (values). -/
import Derived.Test.YtgmmjhelcpgakaaGreatDoorGX
namespace Go.Proofs.YtgmmjhelcpgakaaGreatDoor
open Go.RowKit
set_option linter.unusedVariables false
set_option linter.unusedSimpArgs false

theorem toList_nil (s : ByteArray) : s.toList = [] ↔ s = eS := by
  rw [ByteArray.toList_eq]
  constructor
  · intro h; exact byteArray_ext (by unfold bs; rw [h])
  · rintro rfl; rfl
theorem odd_eq {o n : Int} {nm f : ByteArray} {ds : List Nat} (h : oddP o n nm f ds.length = true) : chkOf o n nm f ds = 0 := by unfold chkOf; rw [if_pos h]
theorem odd_f (o n : Int) (nm f : ByteArray) (ds : List Nat) (h : ¬ f.toList = []) (h6 : o ≠ 6) : chkOf o n nm f ds = 0 := odd_eq (by
  rw [toList_nil] at h; unfold oddP; simp [h, h6])
theorem odd_nm (o n : Int) (nm f : ByteArray) (ds : List Nat) (h : ¬ nm.toList = []) (h6 : ¬ (4 ≤ o ∧ o ≤ 7)) : chkOf o n nm f ds = 0 := odd_eq (by
  rw [toList_nil] at h
  have h1 : decide (nm ≠ eS ∧ ¬ (4 ≤ o ∧ o ≤ 7)) = true := decide_eq_true ⟨h, h6⟩
  unfold oddP; rw [h1]; simp)
theorem odd_n (o n : Int) (nm f : ByteArray) (ds : List Nat) (h : ¬ n = 0) (h6 : ¬ (1 ≤ o ∧ o ≤ 3)) : chkOf o n nm f ds = 0 := odd_eq (by
  have h1 : decide (n ≠ 0 ∧ ¬ (1 ≤ o ∧ o ≤ 3)) = true := decide_eq_true ⟨h, h6⟩
  unfold oddP; rw [h1]; simp)
theorem odd_l (o n : Int) (nm f : ByteArray) (ds : List Nat) (h : 512 < ds.length) : chkOf o n nm f ds = 0 := odd_eq (by
  unfold oddP; simp [h])
theorem even_eq {o n : Int} {nm f : ByteArray} {ds : List Nat} (hf : f.toList = [] ∨ o = 6) (hn : nm.toList = [] ∨ (4 ≤ o ∧ o ≤ 7)) (hv : n = 0 ∨ (1 ≤ o ∧ o ≤ 3)) (hl : ds.length ≤ 512) : oddP o n nm f ds.length = false := by
  rw [toList_nil] at hf hn
  have h1 : decide (f ≠ eS ∧ o ≠ 6) = false := decide_eq_false (by rintro ⟨a, b⟩; rcases hf with h | h; exact a h; exact b h)
  have h2 : decide (nm ≠ eS ∧ ¬ (4 ≤ o ∧ o ≤ 7)) = false := decide_eq_false (by rintro ⟨a, b⟩; rcases hn with h | h; exact a h; exact b h)
  have h3 : decide (n ≠ 0 ∧ ¬ (1 ≤ o ∧ o ≤ 3)) = false := decide_eq_false (by rintro ⟨a, b⟩; rcases hv with h | h; exact a h; exact b h)
  have h4 : decide (512 < ds.length) = false := decide_eq_false (by omega)
  unfold oddP; rw [h1, h2, h3, h4]; rfl
theorem chk_gen {o n : Int} {nm f : ByteArray} {ds : List Nat} (he : oddP o n nm f ds.length = false) (h7 : o ≠ 7) (h1 : 1 ≤ o) (h24 : o ≤ 24) : chkOf o n nm f ds = if okP o n nm f = true ∧ ds.length = wantP o then deepS ds else 0 := by
  unfold chkOf; rw [if_neg (by rw [he]; decide), if_neg h7, if_neg (by omega)]
theorem chk_call {n : Int} {nm f : ByteArray} {ds : List Nat} (he : oddP 7 n nm f ds.length = false) : chkOf 7 n nm f ds = if nameOK nm = true then deepS ds else 0 := by
  unfold chkOf; rw [if_neg (by rw [he]; decide), if_pos rfl]
theorem chk_out {o n : Int} {nm f : ByteArray} {ds : List Nat} (h : o < 1 ∨ 24 < o) : chkOf o n nm f ds = 0 := by
  unfold chkOf
  repeat' split
  all_goals first | rfl | omega
set_option maxRecDepth 100000 in
set_option maxHeartbeats 4000000 in
theorem ck1z (nm f : ByteArray) (ds : List Nat) (m : Nat) (hm : m = ds.length) (A : Option Addr) (c : Nat) (w : World)
    (HF : Hid (∀ W, Calls Tryz.prog 96 #[.slice A m c] W fun e w' => e = .returned (.bool (decide (m ≤ 512))) ∧ w' = W))
    (HD : Hid (∀ W, Keep (fun _ => False) w W → Calls Tryz.prog 99 #[.agg #[.int .i64 0], .slice A m c] W (DPost (deepS ds) W))) :
    Calls Tryz.prog 54 #[.agg #[.int .i64 0], .agg #[.int .i64 1, .int .i64 (0 : Int), .string nm, .string f, .slice A m c]] w (DPost (chkOf 1 (0 : Int) nm f ds) w) := by
  obtain ⟨q, hq⟩ : ∃ q, q = chkOf 1 (0 : Int) nm f ds := ⟨_, rfl⟩
  rw [← hq]
  have HQ := Lib.hid hq; have HM := Lib.hid hm
  obtain ⟨bm, hbm⟩ : ∃ bm, bm = decide (m ≤ 512) := ⟨_, rfl⟩
  rw [← hbm] at HF
  have HBM := Lib.hid hbm
  obtain ⟨D, hD⟩ : ∃ D, D = deepS ds := ⟨_, rfl⟩
  rw [← hD] at HD
  have HDD := Lib.hid hD
  clear hD
  clear hq hm hbm
  have HK0 := Lib.hid (fun n' : Int => show Keep (fun _ => False) w ((w.alloc (.cells #[.int .i64 0] 109)).alloc (.cells #[.int .i64 1, .int .i64 n', .string nm, .string f, .slice A m c] 25)) from ((Keep.refl _ w).alloc _).alloc _)
  have HB0 := Lib.hid (fun n' : Int => show Blk ((w.alloc (.cells #[.int .i64 0] 109)).alloc (.cells #[.int .i64 1, .int .i64 n', .string nm, .string f, .slice A m c] 25)) w.heap.size #[.int .i64 0] 109 from (Blk.new w _ _).alloc _)
  have HB1 := Lib.hid (fun n' : Int => show Blk ((w.alloc (.cells #[.int .i64 0] 109)).alloc (.cells #[.int .i64 1, .int .i64 n', .string nm, .string f, .slice A m c] 25)) (w.heap.size + 1) #[.int .i64 1, .int .i64 n', .string nm, .string f, .slice A m c] 25 from Blk.new' (by simp) _ _)
  go_enter Tryz.func54, Tryz.ntmps54
  go_wp2_with fail
  all_goals first
    | (have hq0 : q = 0 := HQ.out.trans (by first | exact odd_f _ _ _ _ _ (by assumption) (by decide) | exact odd_nm _ _ _ _ _ (by assumption) (by decide))
       subst hq0
       go_ret
       exact ⟨rfl, (HK0.out _)⟩)
    | (refine (HF.out _).mono ?_
       rintro e w' ⟨rfl, rfl⟩
       cases bm with
       | false =>
         have hq0 : q = 0 := HQ.out.trans (odd_l _ _ _ _ _ (by have h := of_decide_eq_false HBM.out.symm; have := HM.out; omega))
         subst hq0
         go_wp2_with fail
         go_ret
         exact ⟨rfl, (HK0.out _)⟩
       | true =>
         have HE := Lib.hid (even_eq (ds := ds) (o := 1) (n := (0 : Int)) (nm := nm) (f := f) (by first | exact .inl (by assumption) | exact .inr (by first | rfl | decide)) (by first | exact .inl (by assumption) | exact .inr (by decide)) (by first | exact .inl (by assumption) | exact .inr (by decide)) (by have h := of_decide_eq_true HBM.out.symm; have := HM.out; omega))
         have HOK : Hid (okP 1 (0 : Int) nm f = true) := (rfl : okP 1 (0 : Int) nm f = true)
         by_cases hw : m = 0
         · have hq1 : q = D := by
             rw [HDD.out]; refine HQ.out.trans ((chk_gen HE.out (by decide) (by decide) (by decide)).trans (if_pos ⟨HOK.out, ?_⟩))
             rw [← HM.out, hw]; rfl
           have HQ1 := Lib.hid hq1
           have hw1 : ((m : Int) == 0) = true := by rw [beq_iff_eq]; omega
           clear hw hq1
           go_wp2_with fail
           refine (HD.out _ (HK0.out _)).mono ?_
           rintro e w3 ⟨rfl, hk3⟩
           have h3 := (HK0.out _).trans hk3
           rw [← HQ1.out]
           go_wp2_with fail
           go_ret
           exact ⟨rfl, h3⟩
         · have hq0 : q = 0 := HQ.out.trans ((chk_gen HE.out (by decide) (by decide) (by decide)).trans (if_neg (by rintro ⟨_, h⟩; apply hw; rw [HM.out, h]; rfl)))
           subst hq0
           have hw1 : ((m : Int) == 0) = false := by rw [beq_eq_false_iff_ne]; omega
           clear hw
           go_wp2_with fail
           go_ret
           exact ⟨rfl, (HK0.out _)⟩)
set_option maxRecDepth 100000 in
set_option maxHeartbeats 4000000 in
theorem ck1n (n : Int) (hn0 : ¬ n = 0) (nm f : ByteArray) (ds : List Nat) (m : Nat) (hm : m = ds.length) (A : Option Addr) (c : Nat) (w : World)
    (HF : Hid (∀ W, Calls Tryz.prog 96 #[.slice A m c] W fun e w' => e = .returned (.bool (decide (m ≤ 512))) ∧ w' = W))
    (HD : Hid (∀ W, Keep (fun _ => False) w W → Calls Tryz.prog 99 #[.agg #[.int .i64 0], .slice A m c] W (DPost (deepS ds) W))) :
    Calls Tryz.prog 54 #[.agg #[.int .i64 0], .agg #[.int .i64 1, .int .i64 n, .string nm, .string f, .slice A m c]] w (DPost (chkOf 1 n nm f ds) w) := by
  obtain ⟨q, hq⟩ : ∃ q, q = chkOf 1 n nm f ds := ⟨_, rfl⟩
  rw [← hq]
  have HQ := Lib.hid hq; have HM := Lib.hid hm
  obtain ⟨bm, hbm⟩ : ∃ bm, bm = decide (m ≤ 512) := ⟨_, rfl⟩
  rw [← hbm] at HF
  have HBM := Lib.hid hbm
  obtain ⟨D, hD⟩ : ∃ D, D = deepS ds := ⟨_, rfl⟩
  rw [← hD] at HD
  have HDD := Lib.hid hD
  clear hD
  clear hq hm hbm
  have HK0 := Lib.hid (fun n' : Int => show Keep (fun _ => False) w ((w.alloc (.cells #[.int .i64 0] 109)).alloc (.cells #[.int .i64 1, .int .i64 n', .string nm, .string f, .slice A m c] 25)) from ((Keep.refl _ w).alloc _).alloc _)
  have HB0 := Lib.hid (fun n' : Int => show Blk ((w.alloc (.cells #[.int .i64 0] 109)).alloc (.cells #[.int .i64 1, .int .i64 n', .string nm, .string f, .slice A m c] 25)) w.heap.size #[.int .i64 0] 109 from (Blk.new w _ _).alloc _)
  have HB1 := Lib.hid (fun n' : Int => show Blk ((w.alloc (.cells #[.int .i64 0] 109)).alloc (.cells #[.int .i64 1, .int .i64 n', .string nm, .string f, .slice A m c] 25)) (w.heap.size + 1) #[.int .i64 1, .int .i64 n', .string nm, .string f, .slice A m c] 25 from Blk.new' (by simp) _ _)
  have tn0 : (n == 0) = false := by rw [beq_eq_false_iff_ne]; exact hn0
  have HN0 := Lib.hid hn0
  clear hn0
  go_enter Tryz.func54, Tryz.ntmps54
  go_wp2_with fail
  all_goals first
    | (have hq0 : q = 0 := HQ.out.trans (by first | exact odd_f _ _ _ _ _ (by assumption) (by decide) | exact odd_nm _ _ _ _ _ (by assumption) (by decide))
       subst hq0
       go_ret
       exact ⟨rfl, (HK0.out _)⟩)
    | (refine (HF.out _).mono ?_
       rintro e w' ⟨rfl, rfl⟩
       cases bm with
       | false =>
         have hq0 : q = 0 := HQ.out.trans (odd_l _ _ _ _ _ (by have h := of_decide_eq_false HBM.out.symm; have := HM.out; omega))
         subst hq0
         go_wp2_with fail
         go_ret
         exact ⟨rfl, (HK0.out _)⟩
       | true =>
         have HE := Lib.hid (even_eq (ds := ds) (o := 1) (n := n) (nm := nm) (f := f) (by first | exact .inl (by assumption) | exact .inr (by first | rfl | decide)) (by first | exact .inl (by assumption) | exact .inr (by decide)) (by first | exact .inl (by assumption) | exact .inr (by decide)) (by have h := of_decide_eq_true HBM.out.symm; have := HM.out; omega))
         by_cases h1 : 0 ≤ n
         · have t1 : decide (0 ≤ n) = true := by simpa using h1
           have HOK : Hid (okP 1 n nm f = true) := t1
           clear h1
           by_cases hw : m = 0
           · have hq1 : q = D := by
               rw [HDD.out]; refine HQ.out.trans ((chk_gen HE.out (by decide) (by decide) (by decide)).trans (if_pos ⟨HOK.out, ?_⟩))
               rw [← HM.out, hw]; rfl
             have HQ1 := Lib.hid hq1
             have hw1 : ((m : Int) == 0) = true := by rw [beq_iff_eq]; omega
             clear hw hq1
             go_wp2_with fail
             refine (HD.out _ (HK0.out _)).mono ?_
             rintro e w3 ⟨rfl, hk3⟩
             have h3 := (HK0.out _).trans hk3
             rw [← HQ1.out]
             go_wp2_with fail
             go_ret
             exact ⟨rfl, h3⟩
           · have hq0 : q = 0 := HQ.out.trans ((chk_gen HE.out (by decide) (by decide) (by decide)).trans (if_neg (by rintro ⟨_, h⟩; apply hw; rw [HM.out, h]; rfl)))
             subst hq0
             have hw1 : ((m : Int) == 0) = false := by rw [beq_eq_false_iff_ne]; omega
             clear hw
             go_wp2_with fail
             go_ret
             exact ⟨rfl, (HK0.out _)⟩
         · have t1 : decide (0 ≤ n) = false := by simpa using h1
           have HOK : Hid (okP 1 n nm f = false) := t1
           clear h1
           have hq0 : q = 0 := HQ.out.trans ((chk_gen HE.out (by decide) (by decide) (by decide)).trans (if_neg (by rintro ⟨h, _⟩; rw [HOK.out] at h; cases h)))
           subst hq0
           go_wp2_with fail
           go_ret
           exact ⟨rfl, by (first | exact HK2.out | exact HK1.out | exact (HK0.out _))⟩)
set_option maxRecDepth 100000 in
set_option maxHeartbeats 4000000 in
theorem ck2z (nm f : ByteArray) (ds : List Nat) (m : Nat) (hm : m = ds.length) (A : Option Addr) (c : Nat) (w : World)
    (HF : Hid (∀ W, Calls Tryz.prog 96 #[.slice A m c] W fun e w' => e = .returned (.bool (decide (m ≤ 512))) ∧ w' = W))
    (HD : Hid (∀ W, Keep (fun _ => False) w W → Calls Tryz.prog 99 #[.agg #[.int .i64 0], .slice A m c] W (DPost (deepS ds) W))) :
    Calls Tryz.prog 54 #[.agg #[.int .i64 0], .agg #[.int .i64 2, .int .i64 (0 : Int), .string nm, .string f, .slice A m c]] w (DPost (chkOf 2 (0 : Int) nm f ds) w) := by
  obtain ⟨q, hq⟩ : ∃ q, q = chkOf 2 (0 : Int) nm f ds := ⟨_, rfl⟩
  rw [← hq]
  have HQ := Lib.hid hq; have HM := Lib.hid hm
  obtain ⟨bm, hbm⟩ : ∃ bm, bm = decide (m ≤ 512) := ⟨_, rfl⟩
  rw [← hbm] at HF
  have HBM := Lib.hid hbm
  obtain ⟨D, hD⟩ : ∃ D, D = deepS ds := ⟨_, rfl⟩
  rw [← hD] at HD
  have HDD := Lib.hid hD
  clear hD
  clear hq hm hbm
  have HK0 := Lib.hid (fun n' : Int => show Keep (fun _ => False) w ((w.alloc (.cells #[.int .i64 0] 109)).alloc (.cells #[.int .i64 2, .int .i64 n', .string nm, .string f, .slice A m c] 25)) from ((Keep.refl _ w).alloc _).alloc _)
  have HB0 := Lib.hid (fun n' : Int => show Blk ((w.alloc (.cells #[.int .i64 0] 109)).alloc (.cells #[.int .i64 2, .int .i64 n', .string nm, .string f, .slice A m c] 25)) w.heap.size #[.int .i64 0] 109 from (Blk.new w _ _).alloc _)
  have HB1 := Lib.hid (fun n' : Int => show Blk ((w.alloc (.cells #[.int .i64 0] 109)).alloc (.cells #[.int .i64 2, .int .i64 n', .string nm, .string f, .slice A m c] 25)) (w.heap.size + 1) #[.int .i64 2, .int .i64 n', .string nm, .string f, .slice A m c] 25 from Blk.new' (by simp) _ _)
  go_enter Tryz.func54, Tryz.ntmps54
  go_wp2_with fail
  all_goals first
    | (have hq0 : q = 0 := HQ.out.trans (by first | exact odd_f _ _ _ _ _ (by assumption) (by decide) | exact odd_nm _ _ _ _ _ (by assumption) (by decide))
       subst hq0
       go_ret
       exact ⟨rfl, (HK0.out _)⟩)
    | (refine (HF.out _).mono ?_
       rintro e w' ⟨rfl, rfl⟩
       cases bm with
       | false =>
         have hq0 : q = 0 := HQ.out.trans (odd_l _ _ _ _ _ (by have h := of_decide_eq_false HBM.out.symm; have := HM.out; omega))
         subst hq0
         go_wp2_with fail
         go_ret
         exact ⟨rfl, (HK0.out _)⟩
       | true =>
         have HE := Lib.hid (even_eq (ds := ds) (o := 2) (n := (0 : Int)) (nm := nm) (f := f) (by first | exact .inl (by assumption) | exact .inr (by first | rfl | decide)) (by first | exact .inl (by assumption) | exact .inr (by decide)) (by first | exact .inl (by assumption) | exact .inr (by decide)) (by have h := of_decide_eq_true HBM.out.symm; have := HM.out; omega))
         have HOK : Hid (okP 2 (0 : Int) nm f = true) := (rfl : okP 2 (0 : Int) nm f = true)
         by_cases hw : m = 0
         · have hq1 : q = D := by
             rw [HDD.out]; refine HQ.out.trans ((chk_gen HE.out (by decide) (by decide) (by decide)).trans (if_pos ⟨HOK.out, ?_⟩))
             rw [← HM.out, hw]; rfl
           have HQ1 := Lib.hid hq1
           have hw1 : ((m : Int) == 0) = true := by rw [beq_iff_eq]; omega
           clear hw hq1
           go_wp2_with fail
           refine (HD.out _ (HK0.out _)).mono ?_
           rintro e w3 ⟨rfl, hk3⟩
           have h3 := (HK0.out _).trans hk3
           rw [← HQ1.out]
           go_wp2_with fail
           go_ret
           exact ⟨rfl, h3⟩
         · have hq0 : q = 0 := HQ.out.trans ((chk_gen HE.out (by decide) (by decide) (by decide)).trans (if_neg (by rintro ⟨_, h⟩; apply hw; rw [HM.out, h]; rfl)))
           subst hq0
           have hw1 : ((m : Int) == 0) = false := by rw [beq_eq_false_iff_ne]; omega
           clear hw
           go_wp2_with fail
           go_ret
           exact ⟨rfl, (HK0.out _)⟩)
set_option maxRecDepth 100000 in
set_option maxHeartbeats 4000000 in
theorem ck2n (n : Int) (hn0 : ¬ n = 0) (nm f : ByteArray) (ds : List Nat) (m : Nat) (hm : m = ds.length) (A : Option Addr) (c : Nat) (w : World)
    (HF : Hid (∀ W, Calls Tryz.prog 96 #[.slice A m c] W fun e w' => e = .returned (.bool (decide (m ≤ 512))) ∧ w' = W))
    (HD : Hid (∀ W, Keep (fun _ => False) w W → Calls Tryz.prog 99 #[.agg #[.int .i64 0], .slice A m c] W (DPost (deepS ds) W))) :
    Calls Tryz.prog 54 #[.agg #[.int .i64 0], .agg #[.int .i64 2, .int .i64 n, .string nm, .string f, .slice A m c]] w (DPost (chkOf 2 n nm f ds) w) := by
  obtain ⟨q, hq⟩ : ∃ q, q = chkOf 2 n nm f ds := ⟨_, rfl⟩
  rw [← hq]
  have HQ := Lib.hid hq; have HM := Lib.hid hm
  obtain ⟨bm, hbm⟩ : ∃ bm, bm = decide (m ≤ 512) := ⟨_, rfl⟩
  rw [← hbm] at HF
  have HBM := Lib.hid hbm
  obtain ⟨D, hD⟩ : ∃ D, D = deepS ds := ⟨_, rfl⟩
  rw [← hD] at HD
  have HDD := Lib.hid hD
  clear hD
  clear hq hm hbm
  have HK0 := Lib.hid (fun n' : Int => show Keep (fun _ => False) w ((w.alloc (.cells #[.int .i64 0] 109)).alloc (.cells #[.int .i64 2, .int .i64 n', .string nm, .string f, .slice A m c] 25)) from ((Keep.refl _ w).alloc _).alloc _)
  have HB0 := Lib.hid (fun n' : Int => show Blk ((w.alloc (.cells #[.int .i64 0] 109)).alloc (.cells #[.int .i64 2, .int .i64 n', .string nm, .string f, .slice A m c] 25)) w.heap.size #[.int .i64 0] 109 from (Blk.new w _ _).alloc _)
  have HB1 := Lib.hid (fun n' : Int => show Blk ((w.alloc (.cells #[.int .i64 0] 109)).alloc (.cells #[.int .i64 2, .int .i64 n', .string nm, .string f, .slice A m c] 25)) (w.heap.size + 1) #[.int .i64 2, .int .i64 n', .string nm, .string f, .slice A m c] 25 from Blk.new' (by simp) _ _)
  have tn0 : (n == 0) = false := by rw [beq_eq_false_iff_ne]; exact hn0
  have HN0 := Lib.hid hn0
  clear hn0
  go_enter Tryz.func54, Tryz.ntmps54
  go_wp2_with fail
  all_goals first
    | (have hq0 : q = 0 := HQ.out.trans (by first | exact odd_f _ _ _ _ _ (by assumption) (by decide) | exact odd_nm _ _ _ _ _ (by assumption) (by decide))
       subst hq0
       go_ret
       exact ⟨rfl, (HK0.out _)⟩)
    | (refine (HF.out _).mono ?_
       rintro e w' ⟨rfl, rfl⟩
       cases bm with
       | false =>
         have hq0 : q = 0 := HQ.out.trans (odd_l _ _ _ _ _ (by have h := of_decide_eq_false HBM.out.symm; have := HM.out; omega))
         subst hq0
         go_wp2_with fail
         go_ret
         exact ⟨rfl, (HK0.out _)⟩
       | true =>
         have HE := Lib.hid (even_eq (ds := ds) (o := 2) (n := n) (nm := nm) (f := f) (by first | exact .inl (by assumption) | exact .inr (by first | rfl | decide)) (by first | exact .inl (by assumption) | exact .inr (by decide)) (by first | exact .inl (by assumption) | exact .inr (by decide)) (by have h := of_decide_eq_true HBM.out.symm; have := HM.out; omega))
         by_cases h2 : n = 1
         · have HOK : Hid (okP 2 n nm f = true) := (by show okP 2 n nm f = true; exact decide_eq_true (Or.inr h2))
           have t1 : (n == 1) = true := by rw [beq_iff_eq]; exact h2
           clear h2
           by_cases hw : m = 0
           · have hq1 : q = D := by
               rw [HDD.out]; refine HQ.out.trans ((chk_gen HE.out (by decide) (by decide) (by decide)).trans (if_pos ⟨HOK.out, ?_⟩))
               rw [← HM.out, hw]; rfl
             have HQ1 := Lib.hid hq1
             have hw1 : ((m : Int) == 0) = true := by rw [beq_iff_eq]; omega
             clear hw hq1
             go_wp2_with fail
             refine (HD.out _ (HK0.out _)).mono ?_
             rintro e w3 ⟨rfl, hk3⟩
             have h3 := (HK0.out _).trans hk3
             rw [← HQ1.out]
             go_wp2_with fail
             go_ret
             exact ⟨rfl, h3⟩
           · have hq0 : q = 0 := HQ.out.trans ((chk_gen HE.out (by decide) (by decide) (by decide)).trans (if_neg (by rintro ⟨_, h⟩; apply hw; rw [HM.out, h]; rfl)))
             subst hq0
             have hw1 : ((m : Int) == 0) = false := by rw [beq_eq_false_iff_ne]; omega
             clear hw
             go_wp2_with fail
             go_ret
             exact ⟨rfl, (HK0.out _)⟩
         · have HOK : Hid (okP 2 n nm f = false) := (by show okP 2 n nm f = false; exact decide_eq_false (fun h => h.elim HN0.out h2))
           have t1 : (n == 1) = false := by rw [beq_eq_false_iff_ne]; exact h2
           clear h2
           have hq0 : q = 0 := HQ.out.trans ((chk_gen HE.out (by decide) (by decide) (by decide)).trans (if_neg (by rintro ⟨h, _⟩; rw [HOK.out] at h; cases h)))
           subst hq0
           go_wp2_with fail
           go_ret
           exact ⟨rfl, by (first | exact HK2.out | exact HK1.out | exact (HK0.out _))⟩)
set_option maxRecDepth 100000 in
set_option maxHeartbeats 4000000 in
theorem ck3z (nm f : ByteArray) (ds : List Nat) (m : Nat) (hm : m = ds.length) (A : Option Addr) (c : Nat) (w : World)
    (HF : Hid (∀ W, Calls Tryz.prog 96 #[.slice A m c] W fun e w' => e = .returned (.bool (decide (m ≤ 512))) ∧ w' = W))
    (HD : Hid (∀ W, Keep (fun _ => False) w W → Calls Tryz.prog 99 #[.agg #[.int .i64 0], .slice A m c] W (DPost (deepS ds) W))) :
    Calls Tryz.prog 54 #[.agg #[.int .i64 0], .agg #[.int .i64 3, .int .i64 (0 : Int), .string nm, .string f, .slice A m c]] w (DPost (chkOf 3 (0 : Int) nm f ds) w) := by
  obtain ⟨q, hq⟩ : ∃ q, q = chkOf 3 (0 : Int) nm f ds := ⟨_, rfl⟩
  rw [← hq]
  have HQ := Lib.hid hq; have HM := Lib.hid hm
  obtain ⟨bm, hbm⟩ : ∃ bm, bm = decide (m ≤ 512) := ⟨_, rfl⟩
  rw [← hbm] at HF
  have HBM := Lib.hid hbm
  obtain ⟨D, hD⟩ : ∃ D, D = deepS ds := ⟨_, rfl⟩
  rw [← hD] at HD
  have HDD := Lib.hid hD
  clear hD
  clear hq hm hbm
  have HK0 := Lib.hid (fun n' : Int => show Keep (fun _ => False) w ((w.alloc (.cells #[.int .i64 0] 109)).alloc (.cells #[.int .i64 3, .int .i64 n', .string nm, .string f, .slice A m c] 25)) from ((Keep.refl _ w).alloc _).alloc _)
  have HB0 := Lib.hid (fun n' : Int => show Blk ((w.alloc (.cells #[.int .i64 0] 109)).alloc (.cells #[.int .i64 3, .int .i64 n', .string nm, .string f, .slice A m c] 25)) w.heap.size #[.int .i64 0] 109 from (Blk.new w _ _).alloc _)
  have HB1 := Lib.hid (fun n' : Int => show Blk ((w.alloc (.cells #[.int .i64 0] 109)).alloc (.cells #[.int .i64 3, .int .i64 n', .string nm, .string f, .slice A m c] 25)) (w.heap.size + 1) #[.int .i64 3, .int .i64 n', .string nm, .string f, .slice A m c] 25 from Blk.new' (by simp) _ _)
  go_enter Tryz.func54, Tryz.ntmps54
  go_wp2_with fail
  all_goals first
    | (have hq0 : q = 0 := HQ.out.trans (by first | exact odd_f _ _ _ _ _ (by assumption) (by decide) | exact odd_nm _ _ _ _ _ (by assumption) (by decide))
       subst hq0
       go_ret
       exact ⟨rfl, (HK0.out _)⟩)
    | (refine (HF.out _).mono ?_
       rintro e w' ⟨rfl, rfl⟩
       cases bm with
       | false =>
         have hq0 : q = 0 := HQ.out.trans (odd_l _ _ _ _ _ (by have h := of_decide_eq_false HBM.out.symm; have := HM.out; omega))
         subst hq0
         go_wp2_with fail
         go_ret
         exact ⟨rfl, (HK0.out _)⟩
       | true =>
         have HE := Lib.hid (even_eq (ds := ds) (o := 3) (n := (0 : Int)) (nm := nm) (f := f) (by first | exact .inl (by assumption) | exact .inr (by first | rfl | decide)) (by first | exact .inl (by assumption) | exact .inr (by decide)) (by first | exact .inl (by assumption) | exact .inr (by decide)) (by have h := of_decide_eq_true HBM.out.symm; have := HM.out; omega))
         have HOK : Hid (okP 3 (0 : Int) nm f = true) := (rfl : okP 3 (0 : Int) nm f = true)
         by_cases hw : m = 0
         · have hq1 : q = D := by
             rw [HDD.out]; refine HQ.out.trans ((chk_gen HE.out (by decide) (by decide) (by decide)).trans (if_pos ⟨HOK.out, ?_⟩))
             rw [← HM.out, hw]; rfl
           have HQ1 := Lib.hid hq1
           have hw1 : ((m : Int) == 0) = true := by rw [beq_iff_eq]; omega
           clear hw hq1
           go_wp2_with fail
           refine (HD.out _ (HK0.out _)).mono ?_
           rintro e w3 ⟨rfl, hk3⟩
           have h3 := (HK0.out _).trans hk3
           rw [← HQ1.out]
           go_wp2_with fail
           go_ret
           exact ⟨rfl, h3⟩
         · have hq0 : q = 0 := HQ.out.trans ((chk_gen HE.out (by decide) (by decide) (by decide)).trans (if_neg (by rintro ⟨_, h⟩; apply hw; rw [HM.out, h]; rfl)))
           subst hq0
           have hw1 : ((m : Int) == 0) = false := by rw [beq_eq_false_iff_ne]; omega
           clear hw
           go_wp2_with fail
           go_ret
           exact ⟨rfl, (HK0.out _)⟩)
set_option maxRecDepth 100000 in
set_option maxHeartbeats 4000000 in
theorem ck3n (n : Int) (hn0 : ¬ n = 0) (nm f : ByteArray) (ds : List Nat) (m : Nat) (hm : m = ds.length) (A : Option Addr) (c : Nat) (w : World)
    (HF : Hid (∀ W, Calls Tryz.prog 96 #[.slice A m c] W fun e w' => e = .returned (.bool (decide (m ≤ 512))) ∧ w' = W))
    (HD : Hid (∀ W, Keep (fun _ => False) w W → Calls Tryz.prog 99 #[.agg #[.int .i64 0], .slice A m c] W (DPost (deepS ds) W))) :
    Calls Tryz.prog 54 #[.agg #[.int .i64 0], .agg #[.int .i64 3, .int .i64 n, .string nm, .string f, .slice A m c]] w (DPost (chkOf 3 n nm f ds) w) := by
  obtain ⟨q, hq⟩ : ∃ q, q = chkOf 3 n nm f ds := ⟨_, rfl⟩
  rw [← hq]
  have HQ := Lib.hid hq; have HM := Lib.hid hm
  obtain ⟨bm, hbm⟩ : ∃ bm, bm = decide (m ≤ 512) := ⟨_, rfl⟩
  rw [← hbm] at HF
  have HBM := Lib.hid hbm
  obtain ⟨D, hD⟩ : ∃ D, D = deepS ds := ⟨_, rfl⟩
  rw [← hD] at HD
  have HDD := Lib.hid hD
  clear hD
  clear hq hm hbm
  have HK0 := Lib.hid (fun n' : Int => show Keep (fun _ => False) w ((w.alloc (.cells #[.int .i64 0] 109)).alloc (.cells #[.int .i64 3, .int .i64 n', .string nm, .string f, .slice A m c] 25)) from ((Keep.refl _ w).alloc _).alloc _)
  have HB0 := Lib.hid (fun n' : Int => show Blk ((w.alloc (.cells #[.int .i64 0] 109)).alloc (.cells #[.int .i64 3, .int .i64 n', .string nm, .string f, .slice A m c] 25)) w.heap.size #[.int .i64 0] 109 from (Blk.new w _ _).alloc _)
  have HB1 := Lib.hid (fun n' : Int => show Blk ((w.alloc (.cells #[.int .i64 0] 109)).alloc (.cells #[.int .i64 3, .int .i64 n', .string nm, .string f, .slice A m c] 25)) (w.heap.size + 1) #[.int .i64 3, .int .i64 n', .string nm, .string f, .slice A m c] 25 from Blk.new' (by simp) _ _)
  have tn0 : (n == 0) = false := by rw [beq_eq_false_iff_ne]; exact hn0
  have HN0 := Lib.hid hn0
  clear hn0
  go_enter Tryz.func54, Tryz.ntmps54
  go_wp2_with fail
  all_goals first
    | (have hq0 : q = 0 := HQ.out.trans (by first | exact odd_f _ _ _ _ _ (by assumption) (by decide) | exact odd_nm _ _ _ _ _ (by assumption) (by decide))
       subst hq0
       go_ret
       exact ⟨rfl, (HK0.out _)⟩)
    | (refine (HF.out _).mono ?_
       rintro e w' ⟨rfl, rfl⟩
       cases bm with
       | false =>
         have hq0 : q = 0 := HQ.out.trans (odd_l _ _ _ _ _ (by have h := of_decide_eq_false HBM.out.symm; have := HM.out; omega))
         subst hq0
         go_wp2_with fail
         go_ret
         exact ⟨rfl, (HK0.out _)⟩
       | true =>
         have HE := Lib.hid (even_eq (ds := ds) (o := 3) (n := n) (nm := nm) (f := f) (by first | exact .inl (by assumption) | exact .inr (by first | rfl | decide)) (by first | exact .inl (by assumption) | exact .inr (by decide)) (by first | exact .inl (by assumption) | exact .inr (by decide)) (by have h := of_decide_eq_true HBM.out.symm; have := HM.out; omega))
         by_cases h1 : 0 ≤ n ∧ n ≤ 255
         · have HOK : Hid (okP 3 n nm f = true) := (by show okP 3 n nm f = true; exact decide_eq_true h1)
           have t0 : decide (0 ≤ n) = true := decide_eq_true h1.1
           have t1 : decide (n ≤ 255) = true := decide_eq_true h1.2
           clear h1
           by_cases hw : m = 0
           · have hq1 : q = D := by
               rw [HDD.out]; refine HQ.out.trans ((chk_gen HE.out (by decide) (by decide) (by decide)).trans (if_pos ⟨HOK.out, ?_⟩))
               rw [← HM.out, hw]; rfl
             have HQ1 := Lib.hid hq1
             have hw1 : ((m : Int) == 0) = true := by rw [beq_iff_eq]; omega
             clear hw hq1
             go_wp2_with fail
             refine (HD.out _ (HK0.out _)).mono ?_
             rintro e w3 ⟨rfl, hk3⟩
             have h3 := (HK0.out _).trans hk3
             rw [← HQ1.out]
             go_wp2_with fail
             go_ret
             exact ⟨rfl, h3⟩
           · have hq0 : q = 0 := HQ.out.trans ((chk_gen HE.out (by decide) (by decide) (by decide)).trans (if_neg (by rintro ⟨_, h⟩; apply hw; rw [HM.out, h]; rfl)))
             subst hq0
             have hw1 : ((m : Int) == 0) = false := by rw [beq_eq_false_iff_ne]; omega
             clear hw
             go_wp2_with fail
             go_ret
             exact ⟨rfl, (HK0.out _)⟩
         · have HOK : Hid (okP 3 n nm f = false) := (by show okP 3 n nm f = false; exact decide_eq_false h1)
           by_cases h2 : 0 ≤ n
           · have t0 : decide (0 ≤ n) = true := decide_eq_true h2
             have t1 : decide (n ≤ 255) = false := decide_eq_false (fun h => h1 ⟨h2, h⟩)
             clear h1 h2
             have hq0 : q = 0 := HQ.out.trans ((chk_gen HE.out (by decide) (by decide) (by decide)).trans (if_neg (by rintro ⟨h, _⟩; rw [HOK.out] at h; cases h)))
             subst hq0
             go_wp2_with fail
             go_ret
             exact ⟨rfl, by (first | exact HK2.out | exact HK1.out | exact (HK0.out _))⟩
           · have t0 : decide (0 ≤ n) = false := decide_eq_false h2
             clear h1 h2
             have hq0 : q = 0 := HQ.out.trans ((chk_gen HE.out (by decide) (by decide) (by decide)).trans (if_neg (by rintro ⟨h, _⟩; rw [HOK.out] at h; cases h)))
             subst hq0
             go_wp2_with fail
             go_ret
             exact ⟨rfl, by (first | exact HK2.out | exact HK1.out | exact (HK0.out _))⟩)
end Go.Proofs.YtgmmjhelcpgakaaGreatDoor
