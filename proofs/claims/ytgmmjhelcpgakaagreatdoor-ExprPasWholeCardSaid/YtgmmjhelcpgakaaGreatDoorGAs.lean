/- The reference of expressions: long, Deep. -/
import Derived.Test.YtgmmjhelcpgakaaGreatDoorGAk
import Derived.Test.YtgmmjhelcpgakaaGreatDoorGAr
import Derived.Deep.CutRange
namespace Go.Proofs.YtgmmjhelcpgakaaGreatDoor
open Go.RowKit
set_option linter.unusedVariables false
set_option linter.unusedSimpArgs false

set_option maxRecDepth 100000 in
set_option maxHeartbeats 4000000 in
theorem reflong_any (n : Nat) : ∀ (x : Ex) (A : Option Addr) (c : Nat) (S : Nat → Prop) (w : World), deepE x ≤ n → noUp x = true → longE x ≤ 1000000 → RdRow S w x.list A →
    Calls Tryz.prog 92 #[.agg (exA x A c)] w fun e w' => e = .returned (.int .i64 (longE x)) ∧ Keep (fun _ => False) w w' := by
  have hu := Tryz.underlying25
  induction n with
  | zero => intro x A c S w h; have := deepE_pos x; omega
  | succ n ih =>
    intro x A c S w hn hup hl hrow
    have hups := noUp_eq x hup
    have hlen : x.list.length ≤ longE x := longE_len x
    obtain ⟨L, hL⟩ : ∃ L, L = longE x := ⟨_, rfl⟩
    have hD' := deepE_eq x
    have hL' := longE_eq x
    obtain ⟨xs, hxs⟩ : ∃ xs, xs = x.list := ⟨_, rfl⟩
    obtain ⟨m, hm⟩ : ∃ m, m = xs.length := ⟨_, rfl⟩
    rw [← hL]
    rw [← hL] at hL' hl hlen
    unfold exA
    rw [← hxs] at hrow hups hD' hL' hlen ⊢
    rw [← hm] at hL' hlen ⊢
    have HM := Lib.hid hm; have HDD := Lib.hid hD'; have HLL := Lib.hid hL'; have HN := Lib.hid hn
    have HROW := Lib.hid hrow; have HUP := Lib.hid hups; have HIH := Lib.hid ih
    clear hL hxs hm hrow hups ih hup hD' hL' hn
    go_enter Tryz.func92, Tryz.ntmps92
    go_upto_region 1 with fail
    obtain ⟨W0, hWW0⟩ : ∃ W0, W0 = w.alloc (.cells #[.int .i64 x.op, .int .i64 x.num, .string x.name, .string x.field, .slice A m c] 25) := ⟨_, rfl⟩
    rw [← hWW0]
    have HBW0 := Lib.hid (show Blk W0 w.heap.size #[.int .i64 x.op, .int .i64 x.num, .string x.name, .string x.field, .slice A m c] 25 by rw [hWW0]; exact Blk.new _ _ _)
    have HAW0 := Lib.hid (show Keep (fun _ => False) w W0 by rw [hWW0]; exact (Keep.refl _ _).alloc _)
    have HZW0 := Lib.hid (show W0.heap.size = w.heap.size + 1 by rw [hWW0]; simp)
    clear hWW0
    have c0 := HBW0.out.all5
    have hblt := HBW0.out.lt
    go_wp2_with fail
    clear c0 hblt
    go_loopw [3, 4] (fun lo i wr => ∃ k : Nat, k ≤ m ∧ i = .int .i64 k ∧ lo = .int .i64 (max m (longEs (xs.take k)) : Nat) ∧ Keep (fun _ => False) W0 wr) (fun _ i _ => m - (intOf i).toNat)
    case atStart => exact ⟨0, Nat.zero_le _, rfl, by rw [List.take_zero, longEs]; simp, Keep.refl _ _⟩
    case round =>
      obtain ⟨k, hk, rfl, rfl, hkp⟩ := hrel
      have HKP := Lib.hid hkp; clear hkp
      have htl := exs_take_le xs k
      have hll : longEs xs ≤ 1000000 := by have := HLL.out; omega
      obtain ⟨lk, hlk⟩ : ∃ lk, lk = max m (longEs (xs.take k)) := ⟨_, rfl⟩
      rw [← hlk]
      have HLK := Lib.hid hlk
      have hlk1 : lk ≤ 1000000 := by rw [hlk]; have := htl.2; omega
      clear hlk htl
      have c0 := (HKP.out.blk HBW0.out (fun h => h)).all5
      have hblt := (HKP.out.blk HBW0.out (fun h => h)).lt
      by_cases hlt : k < m
      · have hkx : k < xs.length := by rw [← HM.out]; exact hlt
        obtain ⟨y, hy⟩ : ∃ y, xs[k]? = some y := ⟨_, List.getElem?_eq_getElem hkx⟩
        have hymem := List.mem_of_getElem? hy
        have hyup := noUps_at HUP.out hy
        have hyop := noUp_op y hyup
        have hyd := deepEs_mem xs y hymem hyop
        have hyl := longEs_mem xs y hymem
        obtain ⟨bb, off, rfl, hbS, hcs⟩ := ((HROW.out.keepF HAW0.out).keepF HKP.out) (by intro h; rw [h] at hkx; simp at hkx)
        obtain ⟨Ay, cy, hyr, hyc⟩ := hcs.at_ k y hy
        have k0 := hyc 0 (by decide)
        have k1 := hyc 1 (by decide)
        have k2 := hyc 2 (by decide)
        have k3 := hyc 3 (by decide)
        have k4 := hyc 4 (by decide)
        have hbb : bb < wr.heap.size := hcs.lt (by intro h; rw [h] at hkx; simp at hkx)
        simp only [exA, List.getElem?_toArray, List.getElem?_cons_succ, List.getElem?_cons_zero, Nat.add_zero] at k0 k1 k2 k3 k4
        have hi0 : (0 : Int) ≤ (k : Int) := by omega
        have hi1 : (k : Int) < (m : Int) := by omega
        have HYR := Lib.hid hyr; have HYU := Lib.hid hyup; have HY := Lib.hid hy
        clear hyc hcs hyr hyup hymem hy
        clear hyop hyd
        go_wp2_with fail
        refine (HIH.out y Ay cy S _ (by have := deepEs_mem xs y (List.mem_of_getElem? HY.out) (noUp_op y HYU.out); have := HDD.out; have := HN.out; omega) HYU.out (by omega) HYR.out).mono ?_
        rintro e w1 ⟨rfl, hk1⟩
        have HK1 := Lib.hid hk1
        obtain ⟨ly, hly⟩ : ∃ ly, ly = longE y := ⟨_, rfl⟩
        have e2 := longEs_take xs k y HY.out
        rw [← hly] at e2 hyl ⊢
        have E2 := Lib.hid e2
        clear hk1 hly e2
        go_wp2_with fail
        exact ⟨⟨k + 1, by omega, by go_num, by rw [E2.out]; have := HLK.out; congr 1; omega, HKP.out.trans HK1.out⟩, by simp [intOf]; omega⟩
      · obtain rfl : k = m := by omega
        have hlk : lk = L := by rw [HLK.out, HM.out, List.take_length, ← HM.out]; exact HLL.out.symm
        clear HLK
        subst hlk
        go_wp2_with fail
        go_ret
        exact ⟨rfl, HAW0.out.trans HKP.out⟩
set_option maxRecDepth 100000 in
set_option maxHeartbeats 4000000 in
theorem refdeep_any (n : Nat) : ∀ (most : Nat) (x : Ex) (A : Option Addr) (c : Nat) (S : Nat → Prop) (w : World), deepE x ≤ n → deepE x ≤ most → most ≤ 2000000 → noUp x = true → longE x ≤ 1000000 → RdRow S w x.list A →
    Calls Tryz.prog 32 #[.agg (exA x A c), .int .i64 most] w fun e w' => e = .returned (.int .i64 (deepE x)) ∧ Keep (fun _ => False) w w' := by
  have hu := Tryz.underlying25
  induction n with
  | zero => intro most x A c S w h; have := deepE_pos x; omega
  | succ n ih =>
    intro most x A c S w hn hmo hm2 hup hl hrow
    have hups := noUp_eq x hup
    have hlen : x.list.length ≤ longE x := longE_len x
    obtain ⟨D, hD⟩ : ∃ D, D = deepE x := ⟨_, rfl⟩
    have hD0 := deepE_pos x
    have hD' := deepE_eq x
    have hL' := longE_eq x
    obtain ⟨xs, hxs⟩ : ∃ xs, xs = x.list := ⟨_, rfl⟩
    obtain ⟨m, hm⟩ : ∃ m, m = xs.length := ⟨_, rfl⟩
    rw [← hD]
    rw [← hD] at hD' hn hmo hD0
    unfold exA
    rw [← hxs] at hrow hups hD' hL' hlen ⊢
    rw [← hm] at hL' hlen ⊢
    have HM := Lib.hid hm; have HDD := Lib.hid hD'; have HLL := Lib.hid hL'; have HN := Lib.hid hn
    have HROW := Lib.hid hrow; have HUP := Lib.hid hups; have HIH := Lib.hid ih
    have hmpos : (0 : Int) < (most : Int) := by omega
    have hml : m ≤ 1000000 := by omega
    have HLX := Lib.hid hl
    clear hD hxs hm hrow hups ih hup hD' hL' hn hD0 hl hlen
    go_enter Tryz.func32, Tryz.ntmps32
    go_upto_region 1 with fail
    obtain ⟨W0, hWW0⟩ : ∃ W0, W0 = w.alloc (.cells #[.int .i64 x.op, .int .i64 x.num, .string x.name, .string x.field, .slice A m c] 25) := ⟨_, rfl⟩
    rw [← hWW0]
    have HBW0 := Lib.hid (show Blk W0 w.heap.size #[.int .i64 x.op, .int .i64 x.num, .string x.name, .string x.field, .slice A m c] 25 by rw [hWW0]; exact Blk.new _ _ _)
    have HAW0 := Lib.hid (show Keep (fun _ => False) w W0 by rw [hWW0]; exact (Keep.refl _ _).alloc _)
    have HZW0 := Lib.hid (show W0.heap.size = w.heap.size + 1 by rw [hWW0]; simp)
    clear hWW0
    go_wp2_with fail
    go_loopw [5, 6] (fun d i wr => ∃ k : Nat, k ≤ m ∧ i = .int .i64 k ∧ d = .int .i64 (deepEs (xs.take k) : Nat) ∧ Keep (fun _ => False) W0 wr) (fun _ i _ => m - (intOf i).toNat)
    case atStart => exact ⟨0, Nat.zero_le _, rfl, by rw [List.take_zero, deepEs]; rfl, Keep.refl _ _⟩
    case round =>
      obtain ⟨k, hk, rfl, rfl, hkp⟩ := hrel
      have HKP := Lib.hid hkp; clear hkp
      have htl := (exs_take_le xs k).1
      have hdl : deepEs xs + 1 = D := HDD.out.symm
      obtain ⟨dk, hdk⟩ : ∃ dk, dk = deepEs (xs.take k) := ⟨_, rfl⟩
      rw [← hdk] at htl ⊢
      have HDK := Lib.hid hdk
      clear hdk
      have c0 := (HKP.out.blk HBW0.out (fun h => h)).all5
      have hblt := (HKP.out.blk HBW0.out (fun h => h)).lt
      by_cases hlt : k < m
      · have hkx : k < xs.length := by rw [← HM.out]; exact hlt
        obtain ⟨y, hy⟩ : ∃ y, xs[k]? = some y := ⟨_, List.getElem?_eq_getElem hkx⟩
        have hymem := List.mem_of_getElem? hy
        have hyup := noUps_at HUP.out hy
        have hyop := noUp_op y hyup
        have hyd := deepEs_mem xs y hymem hyop
        have hyl := longEs_mem xs y hymem
        obtain ⟨bb, off, rfl, hbS, hcs⟩ := ((HROW.out.keepF HAW0.out).keepF HKP.out) (by intro h; rw [h] at hkx; simp at hkx)
        obtain ⟨Ay, cy, hyr, hyc⟩ := hcs.at_ k y hy
        have k0 := hyc 0 (by decide)
        have k1 := hyc 1 (by decide)
        have k2 := hyc 2 (by decide)
        have k3 := hyc 3 (by decide)
        have k4 := hyc 4 (by decide)
        have hbb : bb < wr.heap.size := hcs.lt (by intro h; rw [h] at hkx; simp at hkx)
        simp only [exA, List.getElem?_toArray, List.getElem?_cons_succ, List.getElem?_cons_zero, Nat.add_zero] at k0 k1 k2 k3 k4
        have hi0 : (0 : Int) ≤ (k : Int) := by omega
        have hi1 : (k : Int) < (m : Int) := by omega
        have HYR := Lib.hid hyr; have HYU := Lib.hid hyup; have HY := Lib.hid hy
        clear hyc hcs hyr hyup hymem hy
        have top : ((y.op : Int) != 25) = true := by rw [bne_iff_ne]; omega
        have top2 : ((y.op : Int) == 25) = false := by rw [beq_eq_false_iff_ne]; omega
        clear hyop
        have HC := Lib.hid (HIH.out (most - 1) y Ay cy S wr (by have := HN.out; omega) (by omega) (by omega) HYU.out (by have := HLX.out; have := HLL.out; omega) HYR.out)
        have ecast : ((most - 1 : Nat) : Int) = (most : Int) - 1 := by omega
        have hc := HC.out
        rw [ecast] at hc
        have HC2 := Lib.hid hc
        clear hc HC ecast hyl
        go_wp2_with fail
        refine HC2.out.mono ?_
        rintro e w1 ⟨rfl, hk1⟩
        have HK1 := Lib.hid hk1
        obtain ⟨dy, hdy⟩ : ∃ dy, dy = deepE y := ⟨_, rfl⟩
        have e1 := deepEs_take xs k y HY.out (noUp_op y HYU.out)
        rw [← hdy] at e1 hyd ⊢
        have E1 := Lib.hid e1
        clear hk1 hdy e1
        go_wp2_with fail
        exact ⟨⟨k + 1, by omega, by go_num, by rw [E1.out, ← HDK.out]; congr 1; omega, HKP.out.trans HK1.out⟩, by simp [intOf]; omega⟩
      · obtain rfl : k = m := by omega
        have hdk : dk = deepEs xs := by rw [HDK.out, HM.out, List.take_length]
        have HDK2 := Lib.hid hdk
        clear hdk HDK
        go_wp2_with fail
        go_ret
        have e1 : (dk : Int) + 1 = (D : Int) := by have := HDD.out; have := HDK2.out; omega
        refine ⟨by rw [e1]; rfl, HAW0.out.trans HKP.out⟩
end Go.Proofs.YtgmmjhelcpgakaaGreatDoor
/- The reference of expressions: bound, Parse. -/
namespace Go.Proofs.YtgmmjhelcpgakaaGreatDoor
open Go.RowKit
set_option linter.unusedVariables false
set_option linter.unusedSimpArgs false

def BPost (r : Res) (S : Nat → Prop) (w : World) (en : Ending) (w' : World) : Prop := ∃ A' cc', en = .returned (.agg (gotA r A' cc')) ∧ RdRow S w' (resE r).list A' ∧ Keep (fun _ => False) w w'
set_option maxRecDepth 100000 in
set_option maxHeartbeats 16000000 in
theorem refbound_any (l : List TokL) (g c i : Nat) (r : Res) (A : Option Addr) (cc : Nat) (S : Nat → Prop) (w : World) (ht : Tks w g l) (hi : i ≤ 1000000)
    (hok : ∀ e j, r = .ok e j → noUp e = true ∧ deepE e ≤ 1000000 ∧ longE e ≤ 1000000 ∧ j ≤ 1000000) (hbad : ∀ k p, r = .bad k p → k ≠ 0) (hrow : RdRow S w (resE r).list A) :
    Calls Tryz.prog 52 #[.slice (some ⟨g, 0, none⟩) l.length c, .int .i64 i, .agg (gotA r A cc)] w (BPost (boundAt l i r) S w) := by
  have hu := Tryz.underlying63
  have hue := Tryz.underlying25
  have hud := Tryz.underlying30
  have hu26 := Tryz.underlying28
  have hu38 := Tryz.underlying50
  have fd4 := tokF4
  have hrow := hrow.mono (S' := fun k => S k ∧ k < w.heap.size) fun k hk h => ⟨h, hk⟩
  have HT := Lib.hid ht
  have HTOK : Hid (∀ W, Keep (fun _ => False) w W → Calls Tryz.prog 24 #[.slice (some ⟨g, 0, none⟩) l.length c, .int .i64 i] W fun e w' => e = .returned (.agg (tokA (tk l i))) ∧ Keep (fun _ => False) W w') := fun W hk => refTok_any g c l i (by omega) W (HT.out.keep hk)
  cases r with
  | bad cb pb =>
    have hcb := hbad cb pb rfl
    have tcb : ((cb : Int) != 0) = true := by rw [bne_iff_ne]; omega
    clear hok hbad hrow ht hcb
    rw [gotA_bad]
    have hbd : boundAt l i (.bad cb pb) = .bad cb pb := rfl
    rw [hbd]
    clear hbd
    go_enter Tryz.func52, Tryz.ntmps52
    go_upto_region 1 with fail
    obtain ⟨W0, hWW0⟩ : ∃ W0, W0 = w.alloc (.cells #[.int .i64 0, .int .i64 0, .string ⟨#[]⟩, .string ⟨#[]⟩, .slice A 0 cc, .int .i64 0, .int .i64 cb, .int .i64 pb.1, .int .i64 pb.2.1, .int .i64 pb.2.2] 63) := ⟨_, rfl⟩
    rw [← hWW0]
    have HBW0 := Lib.hid (show Blk W0 w.heap.size #[.int .i64 0, .int .i64 0, .string ⟨#[]⟩, .string ⟨#[]⟩, .slice A 0 cc, .int .i64 0, .int .i64 cb, .int .i64 pb.1, .int .i64 pb.2.1, .int .i64 pb.2.2] 63 by rw [hWW0]; exact Blk.new _ _ _)
    have HAW0 := Lib.hid (show Keep (fun _ => False) w W0 by rw [hWW0]; exact (Keep.refl _ _).alloc _)
    have HZW0 := Lib.hid (show W0.heap.size = w.heap.size + 1 by rw [hWW0]; simp)
    clear hWW0
    obtain ⟨W1, hWW1⟩ : ∃ W1, W1 = W0.alloc (.cells #[.int .i64 0, .int .i64 0, .string ⟨#[]⟩, .string ⟨#[]⟩, .slice none 0 0, .int .i64 0, .int .i64 0, .int .i64 0, .int .i64 0, .int .i64 0] 63) := ⟨_, rfl⟩
    rw [← hWW1]
    have HBW1 := Lib.hid (show Blk W1 W0.heap.size #[.int .i64 0, .int .i64 0, .string ⟨#[]⟩, .string ⟨#[]⟩, .slice none 0 0, .int .i64 0, .int .i64 0, .int .i64 0, .int .i64 0, .int .i64 0] 63 by rw [hWW1]; exact Blk.new _ _ _)
    have HAW1 := Lib.hid (show Keep (fun _ => False) W0 W1 by rw [hWW1]; exact (Keep.refl _ _).alloc _)
    have HZW1 := Lib.hid (show W1.heap.size = W0.heap.size + 1 by rw [hWW1]; simp)
    clear hWW1
    have hbw1 := HBW1.out
    rw [HZW0.out] at hbw1
    obtain ⟨bX, hbX⟩ : ∃ bX, bX = w.heap.size + 1 := ⟨_, rfl⟩
    have hRX : w.heap.size < bX := by rw [hbX]; omega
    rw [← hbX] at hbw1 ⊢
    clear HBW1
    have HBW1 := Lib.hid hbw1
    clear hbw1
    have HKa := Lib.hid (HAW0.out.trans HAW1.out)
    have HBx := Lib.hid (HAW1.out.blk HBW0.out (fun h => h))
    have hxr : w.heap.size ≠ bX := by omega
    clear hbX HBW0
    have g10 := HBx.out.all10
    have r10 := HBW1.out.all10
    have hlt := HBx.out.lt
    have hlt2 := HBW1.out.lt
    go_wp2_with fail
    refine bodyPost_ret (v := .agg (gotA (.bad cb pb) A cc)) (by simp [gotA, resE, resI, resC, resP, exNil, exVar, exOne, Ex.op, Ex.num, Ex.name, Ex.field, Ex.list, results, Tryz.results52, go_sem, g10, r10, hlt, hlt2, hxr, Ne.symm hxr]) rfl ⟨A, cc, rfl, ?_, ?_⟩
    · exact RdRow.nil _ _ _
    · exact (Keep.put10 (HKa.out) (.inl (by omega)) _ _ _ _ _ _ _ _ _ _)
  | ok e0 j0 =>
    obtain ⟨hup, hdp, hln, hj0⟩ := hok e0 j0 rfl
    have hrow2 : RdRow (fun k => S k ∧ k < w.heap.size) w e0.list A := hrow
    have HROW := Lib.hid hrow2
    have HLG : Hid (∀ W, Keep (fun _ => False) w W → Calls Tryz.prog 92 #[.agg (exA e0 A cc)] W fun e w' => e = .returned (.int .i64 (longE e0)) ∧ Keep (fun _ => False) W w') := fun W hk => reflong_any _ e0 A cc _ W (Nat.le_refl _) hup hln (hrow2.keepF hk)
    have HDP : Hid (∀ W, Keep (fun _ => False) w W → Calls Tryz.prog 32 #[.agg (exA e0 A cc), .int .i64 1048576] W fun e w' => e = .returned (.int .i64 (deepE e0)) ∧ Keep (fun _ => False) W w') := fun W hk => refdeep_any _ 1048576 e0 A cc _ W (Nat.le_refl _) (by omega) (by omega) hup hln (hrow2.keepF hk)
    have hbd : boundAt l i (.ok e0 j0) = if 512 < longE e0 then .bad 3 (tk l i).pos else if 48 < deepE e0 then .bad 4 (tk l i).pos else .ok e0 j0 := rfl
    rw [hbd]
    obtain ⟨L, hL⟩ : ∃ L, L = longE e0 := ⟨_, rfl⟩
    obtain ⟨D, hD⟩ : ∃ D, D = deepE e0 := ⟨_, rfl⟩
    rw [← hL] at HLG ⊢
    rw [← hD] at HDP ⊢
    obtain ⟨t, htk⟩ : ∃ t, t = tk l i := ⟨_, rfl⟩
    rw [← htk] at HTOK ⊢
    unfold tokA at HTOK
    unfold exA at HLG HDP
    clear hok hbad hrow ht hup hdp hln hrow2 hbd hL hD htk
    rw [gotA_ok]
    by_cases h1 : 512 < L
    · have t1 : decide ((512 : Int) < (L : Int)) = true := decide_eq_true (by omega)
      rw [if_pos h1]
      clear h1 HDP
      go_enter Tryz.func52, Tryz.ntmps52
      go_upto_region 1 with fail
      obtain ⟨W0, hWW0⟩ : ∃ W0, W0 = w.alloc (.cells #[.int .i64 e0.op, .int .i64 e0.num, .string e0.name, .string e0.field, .slice A e0.list.length cc, .int .i64 j0, .int .i64 0, .int .i64 0, .int .i64 0, .int .i64 0] 63) := ⟨_, rfl⟩
      rw [← hWW0]
      have HBW0 := Lib.hid (show Blk W0 w.heap.size #[.int .i64 e0.op, .int .i64 e0.num, .string e0.name, .string e0.field, .slice A e0.list.length cc, .int .i64 j0, .int .i64 0, .int .i64 0, .int .i64 0, .int .i64 0] 63 by rw [hWW0]; exact Blk.new _ _ _)
      have HAW0 := Lib.hid (show Keep (fun _ => False) w W0 by rw [hWW0]; exact (Keep.refl _ _).alloc _)
      have HZW0 := Lib.hid (show W0.heap.size = w.heap.size + 1 by rw [hWW0]; simp)
      clear hWW0
      obtain ⟨W1, hWW1⟩ : ∃ W1, W1 = W0.alloc (.cells #[.int .i64 0, .int .i64 0, .string ⟨#[]⟩, .string ⟨#[]⟩, .slice none 0 0, .int .i64 0, .int .i64 0, .int .i64 0, .int .i64 0, .int .i64 0] 63) := ⟨_, rfl⟩
      rw [← hWW1]
      have HBW1 := Lib.hid (show Blk W1 W0.heap.size #[.int .i64 0, .int .i64 0, .string ⟨#[]⟩, .string ⟨#[]⟩, .slice none 0 0, .int .i64 0, .int .i64 0, .int .i64 0, .int .i64 0, .int .i64 0] 63 by rw [hWW1]; exact Blk.new _ _ _)
      have HAW1 := Lib.hid (show Keep (fun _ => False) W0 W1 by rw [hWW1]; exact (Keep.refl _ _).alloc _)
      have HZW1 := Lib.hid (show W1.heap.size = W0.heap.size + 1 by rw [hWW1]; simp)
      clear hWW1
      have hbw1 := HBW1.out
      rw [HZW0.out] at hbw1
      obtain ⟨bX, hbX⟩ : ∃ bX, bX = w.heap.size + 1 := ⟨_, rfl⟩
      have hRX : w.heap.size < bX := by rw [hbX]; omega
      rw [← hbX] at hbw1 ⊢
      clear HBW1
      have HBW1 := Lib.hid hbw1
      clear hbw1
      have HKa := Lib.hid (HAW0.out.trans HAW1.out)
      have HBx := Lib.hid (HAW1.out.blk HBW0.out (fun h => h))
      have hxr : w.heap.size ≠ bX := by omega
      clear hbX HBW0
      have g10 := HBx.out.all10
      have r10 := HBW1.out.all10
      have hlt := HBx.out.lt
      have hlt2 := HBW1.out.lt
      go_wp2_with fail
      refine (HLG.out W1 HKa.out).mono ?_
      rintro en w1 ⟨rfl, hk1⟩
      go_wp2_with fail
      refine (HTOK.out w1 (HKa.out.trans hk1)).mono ?_
      rintro en w2 ⟨rfl, hk2⟩
      clear g10 r10
      have r10 := ((hk1.trans hk2).blk HBW1.out (fun h => h)).all10
      have hlt3 := ((hk1.trans hk2).blk HBW1.out (fun h => h)).lt
      have HK2 := Lib.hid ((HKa.out.trans hk1).trans hk2)
      clear hk1 hk2
      go_wp2_with fail
      refine bodyPost_ret (v := .agg (gotA (.bad 3 t.pos) none 0)) (by simp [gotA, resE, resI, resC, resP, exNil, exVar, exOne, Ex.op, Ex.num, Ex.name, Ex.field, Ex.list, results, Tryz.results52, go_sem, r10, hlt3]) rfl ⟨none, 0, rfl, ?_, ?_⟩
      · exact RdRow.nil _ _ _
      · exact (Keep.put10 (HK2.out) (.inl (by omega)) _ _ _ _ _ _ _ _ _ _)
    · have t1 : decide ((512 : Int) < (L : Int)) = false := decide_eq_false (by omega)
      rw [if_neg h1]
      by_cases h2 : 48 < D
      · have t2 : decide ((48 : Int) < (D : Int)) = true := decide_eq_true (by omega)
        rw [if_pos h2]
        clear h1 h2
        go_enter Tryz.func52, Tryz.ntmps52
        go_upto_region 1 with fail
        obtain ⟨W0, hWW0⟩ : ∃ W0, W0 = w.alloc (.cells #[.int .i64 e0.op, .int .i64 e0.num, .string e0.name, .string e0.field, .slice A e0.list.length cc, .int .i64 j0, .int .i64 0, .int .i64 0, .int .i64 0, .int .i64 0] 63) := ⟨_, rfl⟩
        rw [← hWW0]
        have HBW0 := Lib.hid (show Blk W0 w.heap.size #[.int .i64 e0.op, .int .i64 e0.num, .string e0.name, .string e0.field, .slice A e0.list.length cc, .int .i64 j0, .int .i64 0, .int .i64 0, .int .i64 0, .int .i64 0] 63 by rw [hWW0]; exact Blk.new _ _ _)
        have HAW0 := Lib.hid (show Keep (fun _ => False) w W0 by rw [hWW0]; exact (Keep.refl _ _).alloc _)
        have HZW0 := Lib.hid (show W0.heap.size = w.heap.size + 1 by rw [hWW0]; simp)
        clear hWW0
        obtain ⟨W1, hWW1⟩ : ∃ W1, W1 = W0.alloc (.cells #[.int .i64 0, .int .i64 0, .string ⟨#[]⟩, .string ⟨#[]⟩, .slice none 0 0, .int .i64 0, .int .i64 0, .int .i64 0, .int .i64 0, .int .i64 0] 63) := ⟨_, rfl⟩
        rw [← hWW1]
        have HBW1 := Lib.hid (show Blk W1 W0.heap.size #[.int .i64 0, .int .i64 0, .string ⟨#[]⟩, .string ⟨#[]⟩, .slice none 0 0, .int .i64 0, .int .i64 0, .int .i64 0, .int .i64 0, .int .i64 0] 63 by rw [hWW1]; exact Blk.new _ _ _)
        have HAW1 := Lib.hid (show Keep (fun _ => False) W0 W1 by rw [hWW1]; exact (Keep.refl _ _).alloc _)
        have HZW1 := Lib.hid (show W1.heap.size = W0.heap.size + 1 by rw [hWW1]; simp)
        clear hWW1
        have hbw1 := HBW1.out
        rw [HZW0.out] at hbw1
        obtain ⟨bX, hbX⟩ : ∃ bX, bX = w.heap.size + 1 := ⟨_, rfl⟩
        have hRX : w.heap.size < bX := by rw [hbX]; omega
        rw [← hbX] at hbw1 ⊢
        clear HBW1
        have HBW1 := Lib.hid hbw1
        clear hbw1
        have HKa := Lib.hid (HAW0.out.trans HAW1.out)
        have HBx := Lib.hid (HAW1.out.blk HBW0.out (fun h => h))
        have hxr : w.heap.size ≠ bX := by omega
        clear hbX HBW0
        have g10 := HBx.out.all10
        have r10 := HBW1.out.all10
        have hlt := HBx.out.lt
        have hlt2 := HBW1.out.lt
        go_wp2_with fail
        refine (HLG.out W1 HKa.out).mono ?_
        rintro en w1 ⟨rfl, hk1⟩
        have HK1 := Lib.hid (HKa.out.trans hk1)
        have HBW1' := Lib.hid (hk1.blk HBW1.out (fun h => h))
        have hb1 := hk1.blk HBx.out (fun h => h)
        clear g10 r10 hk1
        have g10 := hb1.all10
        have hlt4 := hb1.lt
        clear hb1
        go_wp2_with fail
        refine (HDP.out w1 HK1.out).mono ?_
        rintro en w2 ⟨rfl, hk2⟩
        have HK2 := Lib.hid (HK1.out.trans hk2)
        have HBW2 := Lib.hid (hk2.blk HBW1'.out (fun h => h))
        clear hk2 g10
        go_wp2_with fail
        refine (HTOK.out w2 HK2.out).mono ?_
        rintro en w3 ⟨rfl, hk3⟩
        have r10 := (hk3.blk HBW2.out (fun h => h)).all10
        have hlt3 := (hk3.blk HBW2.out (fun h => h)).lt
        have HK3 := Lib.hid (HK2.out.trans hk3)
        clear hk3
        go_wp2_with fail
        refine bodyPost_ret (v := .agg (gotA (.bad 4 t.pos) none 0)) (by simp [gotA, resE, resI, resC, resP, exNil, exVar, exOne, Ex.op, Ex.num, Ex.name, Ex.field, Ex.list, results, Tryz.results52, go_sem, r10, hlt3]) rfl ⟨none, 0, rfl, ?_, ?_⟩
        · exact RdRow.nil _ _ _
        · exact (Keep.put10 (HK3.out) (.inl (by omega)) _ _ _ _ _ _ _ _ _ _)
      · have t2 : decide ((48 : Int) < (D : Int)) = false := decide_eq_false (by omega)
        rw [if_neg h2]
        clear h1 h2
        go_enter Tryz.func52, Tryz.ntmps52
        go_upto_region 1 with fail
        obtain ⟨W0, hWW0⟩ : ∃ W0, W0 = w.alloc (.cells #[.int .i64 e0.op, .int .i64 e0.num, .string e0.name, .string e0.field, .slice A e0.list.length cc, .int .i64 j0, .int .i64 0, .int .i64 0, .int .i64 0, .int .i64 0] 63) := ⟨_, rfl⟩
        rw [← hWW0]
        have HBW0 := Lib.hid (show Blk W0 w.heap.size #[.int .i64 e0.op, .int .i64 e0.num, .string e0.name, .string e0.field, .slice A e0.list.length cc, .int .i64 j0, .int .i64 0, .int .i64 0, .int .i64 0, .int .i64 0] 63 by rw [hWW0]; exact Blk.new _ _ _)
        have HAW0 := Lib.hid (show Keep (fun _ => False) w W0 by rw [hWW0]; exact (Keep.refl _ _).alloc _)
        have HZW0 := Lib.hid (show W0.heap.size = w.heap.size + 1 by rw [hWW0]; simp)
        clear hWW0
        obtain ⟨W1, hWW1⟩ : ∃ W1, W1 = W0.alloc (.cells #[.int .i64 0, .int .i64 0, .string ⟨#[]⟩, .string ⟨#[]⟩, .slice none 0 0, .int .i64 0, .int .i64 0, .int .i64 0, .int .i64 0, .int .i64 0] 63) := ⟨_, rfl⟩
        rw [← hWW1]
        have HBW1 := Lib.hid (show Blk W1 W0.heap.size #[.int .i64 0, .int .i64 0, .string ⟨#[]⟩, .string ⟨#[]⟩, .slice none 0 0, .int .i64 0, .int .i64 0, .int .i64 0, .int .i64 0, .int .i64 0] 63 by rw [hWW1]; exact Blk.new _ _ _)
        have HAW1 := Lib.hid (show Keep (fun _ => False) W0 W1 by rw [hWW1]; exact (Keep.refl _ _).alloc _)
        have HZW1 := Lib.hid (show W1.heap.size = W0.heap.size + 1 by rw [hWW1]; simp)
        clear hWW1
        have hbw1 := HBW1.out
        rw [HZW0.out] at hbw1
        obtain ⟨bX, hbX⟩ : ∃ bX, bX = w.heap.size + 1 := ⟨_, rfl⟩
        have hRX : w.heap.size < bX := by rw [hbX]; omega
        rw [← hbX] at hbw1 ⊢
        clear HBW1
        have HBW1 := Lib.hid hbw1
        clear hbw1
        have HKa := Lib.hid (HAW0.out.trans HAW1.out)
        have HBx := Lib.hid (HAW1.out.blk HBW0.out (fun h => h))
        have hxr : w.heap.size ≠ bX := by omega
        clear hbX HBW0
        have g10 := HBx.out.all10
        have r10 := HBW1.out.all10
        have hlt := HBx.out.lt
        have hlt2 := HBW1.out.lt
        go_wp2_with fail
        refine (HLG.out W1 HKa.out).mono ?_
        rintro en w1 ⟨rfl, hk1⟩
        have HK1 := Lib.hid (HKa.out.trans hk1)
        have HBW1' := Lib.hid (hk1.blk HBW1.out (fun h => h))
        have HBx1 := Lib.hid (hk1.blk HBx.out (fun h => h))
        clear g10 r10 hk1
        have g10 := HBx1.out.all10
        have hlt4 := HBx1.out.lt
        go_wp2_with fail
        refine (HDP.out w1 HK1.out).mono ?_
        rintro en w2 ⟨rfl, hk2⟩
        have HK2 := Lib.hid (HK1.out.trans hk2)
        have HBW2 := Lib.hid (hk2.blk HBW1'.out (fun h => h))
        have HBx2 := Lib.hid (hk2.blk HBx1.out (fun h => h))
        clear hk2 g10 hlt4
        have g10 := HBx2.out.all10
        have hlt4 := HBx2.out.lt
        have r10 := HBW2.out.all10
        have hlt5 := HBW2.out.lt
        go_wp2_with fail
        have hkp := fun (X : World) v0 v1 v2 v3 v4 v5 v6 v7 v8 v9 => Keep.put10 (P := (· = bX)) (b := bX) (Keep.refl _ X) (.inr rfl) v0 v1 v2 v3 v4 v5 v6 v7 v8 v9
        refine bodyPost_ret (v := .agg (gotA (.ok e0 j0) A cc)) (by simp [gotA, resE, resI, resC, resP, exNil, exVar, exOne, Ex.op, Ex.num, Ex.name, Ex.field, Ex.list, results, Tryz.results52, go_sem, g10, r10, hlt4, hlt5, hxr, Ne.symm hxr]) rfl ⟨A, cc, rfl, ?_, ?_⟩
        · exact ((HROW.out.keepF HK2.out).keep (hkp _ _ _ _ _ _ _ _ _ _ _) (fun k h h2 => by have := h2.2; omega)).mono (fun k _ h => h.1)
        · exact (Keep.put10 (HK2.out) (.inl (by omega)) _ _ _ _ _ _ _ _ _ _)
/-- Parse: what is read from a place on. -/
theorem parseAt_ok {l : List TokL} {i : Nat} (hi : i ≤ l.length) {e : Ex} {j : Nat} (h : levAt l i = .ok e j) : noUp e = true ∧ deepE e ≤ l.length + 1 ∧ longE e ≤ l.length + 1 ∧ j ≤ l.length := by
  have h1 := levAt_rm l i hi
  rw [h] at h1
  have h2 := levAt_size l i hi e j h
  have h3 := rm_noUp l (bigF l) (.lev 1) i e j trivial h1
  have h4 := rm_le_len h1 hi
  refine ⟨h3, ?_, ?_, h4⟩ <;> omega
set_option maxRecDepth 100000 in
set_option maxHeartbeats 4000000 in
theorem refparse_any (l : List TokL) (g c i : Nat) (w : World) (ht : Tks w g l) (hbig : l.length ≤ 900000) (hi : i ≤ l.length) :
    Calls Tryz.prog 23 #[.int .i64 0, .slice (some ⟨g, 0, none⟩) l.length c, .int .i64 i] w (GPost (parseAt l i) w) := by
  have hu := Tryz.underlying63
  have hlev := levAt_rm l i hi
  have HOK := Lib.hid (fun e j (h : levAt l i = .ok e j) => parseAt_ok hi h)
  have HBAD := Lib.hid (fun k p (h : levAt l i = .bad k p) => rm_bad (h ▸ hlev))
  have HLV := Lib.hid (fun (W : World) (hk : Keep (fun _ => False) w W) => (ref_all l g c (bigF l)).1 1 i W _ (by omega) (by omega) hi (ht.keep hk) hlev)
  have HT := Lib.hid ht
  unfold parseAt
  obtain ⟨r, hr⟩ : ∃ r, r = levAt l i := ⟨_, rfl⟩
  rw [← hr] at HOK HBAD HLV ⊢
  clear hlev hr ht
  have HBD : Hid (∀ (A : Option Addr) (cc : Nat) (S : Nat → Prop) (W : World), Keep (fun _ => False) w W → RdRow S W (resE r).list A → Calls Tryz.prog 52 #[.slice (some ⟨g, 0, none⟩) l.length c, .int .i64 i, .agg (gotA r A cc)] W (BPost (boundAt l i r) S W)) := fun A cc S W hk hrow => refbound_any l g c i r A cc S W (HT.out.keep hk) (by omega) (fun e j h => by have := HOK.out e j h; exact ⟨this.1, by omega, by omega, by omega⟩) HBAD.out hrow
  obtain ⟨q, hq⟩ : ∃ q, q = boundAt l i r := ⟨_, rfl⟩
  rw [← hq] at HBD ⊢
  clear hq HOK HBAD
  go_enter Tryz.func23, Tryz.ntmps23
  go_wp2_with fail
  obtain ⟨W0, hWW0⟩ : ∃ W0, W0 = w.alloc (.cells #[.int .i64 0, .int .i64 0, .string ⟨#[]⟩, .string ⟨#[]⟩, .slice none 0 0, .int .i64 0, .int .i64 0, .int .i64 0, .int .i64 0, .int .i64 0] 63) := ⟨_, rfl⟩
  rw [← hWW0]
  have HBW0 := Lib.hid (show Blk W0 w.heap.size #[.int .i64 0, .int .i64 0, .string ⟨#[]⟩, .string ⟨#[]⟩, .slice none 0 0, .int .i64 0, .int .i64 0, .int .i64 0, .int .i64 0, .int .i64 0] 63 by rw [hWW0]; exact Blk.new _ _ _)
  have HAW0 := Lib.hid (show Keep (fun _ => False) w W0 by rw [hWW0]; exact (Keep.refl _ _).alloc _)
  have HZW0 := Lib.hid (show W0.heap.size = w.heap.size + 1 by rw [hWW0]; simp)
  clear hWW0
  refine (HLV.out W0 HAW0.out).mono ?_
  rintro en w1 ⟨A, cc, rfl, hrow, hk1⟩
  have HROW := Lib.hid hrow
  have HK1 := Lib.hid (HAW0.out.trans hk1)
  have HBR1 := Lib.hid (hk1.blk HBW0.out (fun h => h))
  clear hrow hk1
  have HC := Lib.hid (HBD.out A cc _ w1 HK1.out HROW.out)
  clear HBD HLV
  have hz0 := HZW0.out
  unfold gotA at HC ⊢
  go_wp2_with fail
  refine HC.out.mono ?_
  rintro en w2 ⟨A2, cc2, rfl, hrow2, hk2⟩
  have HROW2 := Lib.hid hrow2
  have b10 := (hk2.blk HBR1.out (fun h => h)).all10
  have hlt := (hk2.blk HBR1.out (fun h => h)).lt
  have HK2 := Lib.hid (HK1.out.trans hk2)
  clear hrow2 hk2 HC
  unfold gotA
  go_wp2_with fail
  have hkp := fun (X : World) v0 v1 v2 v3 v4 v5 v6 v7 v8 v9 => Keep.put10 (P := (· = w.heap.size)) (b := w.heap.size) (Keep.refl _ X) (.inr rfl) v0 v1 v2 v3 v4 v5 v6 v7 v8 v9
  refine bodyPost_ret (v := .agg (gotA q A2 cc2)) (by simp [gotA, results, Tryz.results23, go_sem, b10, hlt]) rfl ⟨A2, cc2, rfl, ?_, ?_⟩
  · exact ((HROW2.out.keep (hkp _ _ _ _ _ _ _ _ _ _ _) (fun k h h2 => by have h2 : W0.heap.size ≤ k := h2; omega))).base (by omega)
  · exact (Keep.put10 HK2.out (.inl (Nat.le_refl _)) _ _ _ _ _ _ _ _ _ _)
end Go.Proofs.YtgmmjhelcpgakaaGreatDoor
