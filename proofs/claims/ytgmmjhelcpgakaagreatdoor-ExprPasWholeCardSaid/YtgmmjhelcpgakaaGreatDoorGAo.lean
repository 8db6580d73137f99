/- The reference of expressions: Level. -/
import Derived.Test.YtgmmjhelcpgakaaGreatDoorGAn
import Derived.Deep.CutRange
namespace Go.Proofs.YtgmmjhelcpgakaaGreatDoor
open Go.RowKit
set_option linter.unusedVariables false
set_option linter.unusedSimpArgs false

set_option maxRecDepth 100000 in
set_option maxHeartbeats 16000000 in
theorem level_any (l : List TokL) (g c f : Nat) (ihl : ∀ f', f' < f → DoesL l g c f') (ihf : ∀ f', f' < f → DoesF l g c f') : DoesL l g c f := by
  intro k i w r h1 h4 hi ht hr
  have hu := Tryz.underlying63
  have hue := Tryz.underlying25
  have hud := Tryz.underlying30
  have hbig := ht.big
  cases f with
  | zero => cases hr
  | succ f =>
  rw [rm] at hr
  have HT := Lib.hid ht
  have HL := Lib.hid ihl; have HF := Lib.hid ihf
  clear ihl ihf ht
  by_cases hk4 : k = 4
  · subst hk4
    rw [if_pos rfl] at hr
    have HR := Lib.hid hr
    clear hr h1 h4
    go_enter Tryz.func53, Tryz.ntmps53
    go_wp2_with fail
    obtain ⟨W0, hWW0⟩ : ∃ W0, W0 = w.alloc (.cells #[.int .i64 0, .int .i64 0, .string ⟨#[]⟩, .string ⟨#[]⟩, .slice none 0 0, .int .i64 0, .int .i64 0, .int .i64 0, .int .i64 0, .int .i64 0] 63) := ⟨_, rfl⟩
    rw [← hWW0]
    have HBW0 := Lib.hid (show Blk W0 w.heap.size #[.int .i64 0, .int .i64 0, .string ⟨#[]⟩, .string ⟨#[]⟩, .slice none 0 0, .int .i64 0, .int .i64 0, .int .i64 0, .int .i64 0, .int .i64 0] 63 by rw [hWW0]; exact Blk.new _ _ _)
    have HAW0 := Lib.hid (show Keep (fun _ => False) w W0 by rw [hWW0]; exact (Keep.refl _ _).alloc _)
    have HZW0 := Lib.hid (show W0.heap.size = w.heap.size + 1 by rw [hWW0]; simp)
    clear hWW0
    refine (reflast_any W0).mono ?_
    rintro e w0 ⟨rfl, hw0⟩
    subst hw0
    go_wp2_with fail
    refine (HF.out f (by omega) i _ r hi (HT.out.keep HAW0.out) HR.out).mono ?_
    rintro e w1 ⟨A, cc, rfl, hrow, hk1⟩
    have HROW := Lib.hid hrow; have HK1 := Lib.hid hk1
    have HB := Lib.hid (hk1.blk HBW0.out (fun h => h))
    have b10 := HB.out.all10
    clear hrow hk1
    unfold gotA
    go_wp2_with fail
    have hkp := fun (X : World) => Keep.put10 (P := (· = w.heap.size)) (b := w.heap.size) (Keep.refl _ X) (.inr rfl) (.int .i64 (resE r).op) (.int .i64 (resE r).num) (.string (resE r).name) (.string (resE r).field) (.slice A (resE r).list.length cc) (.int .i64 (resI 0 r : Nat)) (.int .i64 (resC r : Nat)) (.int .i64 (resP r).1) (.int .i64 (resP r).2.1) (.int .i64 (resP r).2.2)
    refine bodyPost_ret (v := .agg (gotA r A cc)) (by simp [gotA, results, Tryz.results53, go_sem, b10]) rfl ⟨A, cc, rfl, ?_, ?_⟩
    · have hz := HZW0.out
      exact (HROW.out.keep (hkp _) (fun k h1 h2 => by have h2 : _ ≤ k := h2; omega)).base (by omega)
    · exact Keep.put10 (HAW0.out.trans HK1.out) (.inl (Nat.le_refl _)) _ _ _ _ _ _ _ _ _ _
  · rw [if_neg hk4] at hr
    obtain ⟨m, hm⟩ : ∃ m, m = (k == 2 && isT l i gMinus) := ⟨_, rfl⟩
    rw [← hm] at hr
    obtain ⟨i2, hi2⟩ : ∃ i2, i2 = (if m = true then i + 1 else i) := ⟨_, rfl⟩
    rw [← hi2] at hr
    have hi2l : i2 ≤ l.length := by
      rw [hi2]
      split
      · rename_i h; rw [hm, Bool.and_eq_true] at h; exact isT_in h.2
      · exact hi
    have t4 : ((k : Int) == 4) = false := by rw [beq_eq_false_iff_ne]; omega
    have t2 : ((k : Int) == 2) = (k == 2) := by rw [Bool.eq_iff_iff]; simp; omega
    obtain ⟨b2, hb2⟩ : ∃ b2, b2 = (k == 2) := ⟨_, rfl⟩
    rw [← hb2] at t2 hm
    have HR := Lib.hid hr; have HM := Lib.hid hm; have HI2 := Lib.hid hi2; have HB2 := Lib.hid hb2
    clear hr hm hi2 hb2
    go_enter Tryz.func53, Tryz.ntmps53
    go_wp2_with fail
    obtain ⟨W0, hWW0⟩ : ∃ W0, W0 = w.alloc (.cells #[.int .i64 0, .int .i64 0, .string ⟨#[]⟩, .string ⟨#[]⟩, .slice none 0 0, .int .i64 0, .int .i64 0, .int .i64 0, .int .i64 0, .int .i64 0] 63) := ⟨_, rfl⟩
    rw [← hWW0]
    have HBW0 := Lib.hid (show Blk W0 w.heap.size #[.int .i64 0, .int .i64 0, .string ⟨#[]⟩, .string ⟨#[]⟩, .slice none 0 0, .int .i64 0, .int .i64 0, .int .i64 0, .int .i64 0, .int .i64 0] 63 by rw [hWW0]; exact Blk.new _ _ _)
    have HAW0 := Lib.hid (show Keep (fun _ => False) w W0 by rw [hWW0]; exact (Keep.refl _ _).alloc _)
    have HZW0 := Lib.hid (show W0.heap.size = w.heap.size + 1 by rw [hWW0]; simp)
    clear hWW0
    refine (reflast_any W0).mono ?_
    rintro e w0 ⟨rfl, hw0⟩
    subst hw0
    have HIS := Lib.hid (refIs_any g c l i (by omega) gMinus w0 (HT.out.keep HAW0.out))
    go_upto_region 3 with fail
    go_cut [9] from 9 to 32 (fun v9 wx => v9 = .bool m ∧ Keep (fun _ => False) w0 wx)
    case first =>
      cases b2 with
      | false =>
        have hm := HM.out
        rw [Bool.false_and] at hm
        subst hm
        go_wp2_with fail
        go_meet
        exact ⟨rfl, Keep.refl _ _⟩
      | true =>
        have hm := HM.out
        rw [Bool.true_and] at hm
        rw [← hm] at HIS
        clear hm HM
        go_wp2_with fail
        refine HIS.out.mono ?_
        rintro e w1 ⟨rfl, hk1⟩
        go_wp2_with fail
        go_meet
        exact ⟨rfl, hk1⟩
    case rest =>
    obtain ⟨rfl, hkc⟩ := hcut
    obtain ⟨w2, rfl⟩ : ∃ x, x = wc := ⟨_, rfl⟩
    have HKC := Lib.hid hkc
    clear hkc
    have HIz := Lib.hid (show i + 1 ≤ 1900000 by omega)
    go_upto_if 33 with fail
    go_cut [3] from 33 to 35 (fun v3 wx => v3 = .int .i64 i2 ∧ w2 = wx)
    case first =>
      cases m with
      | true =>
        have hi2 := HI2.out
        rw [if_pos rfl] at hi2
        clear HI2
        go_wp2_with fail
        go_meet
        exact ⟨by rw [hi2]; go_num, rfl⟩
      | false =>
        have hi2 := HI2.out
        rw [if_neg (by decide)] at hi2
        clear HI2
        go_wp2_with fail
        go_meet
        exact ⟨by rw [hi2], rfl⟩
    case rest =>
    obtain ⟨rfl, rfl⟩ := hcut
    have ek : ((k + 1 : Nat) : Int) = (k : Int) + 1 := by omega
    rcases nxt_some HR.out with ⟨cb, pb, hr0, rfl⟩ | ⟨e0, j0, hr0, hr1⟩
    · have HLk := HL.out f (by omega) (k + 1) i2 w2 _ (by omega) (by omega) hi2l (HT.out.keep (HAW0.out.trans HKC.out)) hr0
      rw [ek] at HLk
      have HLK := Lib.hid HLk
      have hcb := rm_bad hr0
      have tcb : ((cb : Int) != 0) = true := by rw [bne_iff_ne]; omega
      clear HLk hr0 hcb
      go_wp2_with fail
      refine HLK.out.mono ?_
      rintro e w3 ⟨A, cc, rfl, hrow, hk3⟩
      have HB := Lib.hid (hk3.blk (HKC.out.blk HBW0.out (fun h => h)) (fun h => h))
      have b10 := HB.out.all10
      have hlt := HB.out.lt
      have HK3 := Lib.hid ((HAW0.out.trans HKC.out).trans hk3)
      clear hrow hk3
      rw [gotA_bad]
      go_wp2_with fail
      refine bodyPost_ret (v := .agg (gotA (.bad cb pb) A cc)) (by simp [gotA_bad, results, Tryz.results53, go_sem, b10, hlt]) rfl ⟨A, cc, rfl, RdRow.nil _ _ _, ?_⟩
      exact (Keep.put10 HK3.out (.inl (Nat.le_refl _)) _ _ _ _ _ _ _ _ _ _).alloc _
    · have hj0 := rm_le_len hr0 hi2l
      have HLk := HL.out f (by omega) (k + 1) i2 w2 _ (by omega) (by omega) hi2l (HT.out.keep (HAW0.out.trans HKC.out)) hr0
      rw [ek] at HLk
      have HLK := Lib.hid HLk
      have HR1 := Lib.hid hr1
      clear HLk hr0 hr1 HR
      go_wp2_with fail
      refine HLK.out.mono ?_
      rintro e w3 ⟨A0, cc0, rfl, hrow, hk3⟩
      have HROW0 := Lib.hid hrow
      have HBR := Lib.hid (hk3.blk (HKC.out.blk HBW0.out (fun h => h)) (fun h => h))
      have HK3 := Lib.hid ((HAW0.out.trans HKC.out).trans hk3)
      have hw2 : w.heap.size < w2.heap.size := (HKC.out.blk HBW0.out (fun h => h)).lt
      have hw3 : w2.heap.size ≤ w3.heap.size := hk3.size
      clear hrow hk3
      rw [gotA_ok]
      go_upto_if 47 with fail
      obtain ⟨W4, hWW4⟩ : ∃ W4, W4 = w3.alloc (.cells #[.int .i64 e0.op, .int .i64 e0.num, .string e0.name, .string e0.field, .slice A0 e0.list.length cc0, .int .i64 j0, .int .i64 0, .int .i64 0, .int .i64 0, .int .i64 0] 63) := ⟨_, rfl⟩
      rw [← hWW4]
      have HBW4 := Lib.hid (show Blk W4 w3.heap.size #[.int .i64 e0.op, .int .i64 e0.num, .string e0.name, .string e0.field, .slice A0 e0.list.length cc0, .int .i64 j0, .int .i64 0, .int .i64 0, .int .i64 0, .int .i64 0] 63 by rw [hWW4]; exact Blk.new _ _ _)
      have HAW4 := Lib.hid (show Keep (fun _ => False) w3 W4 by rw [hWW4]; exact (Keep.refl _ _).alloc _)
      have HZW4 := Lib.hid (show W4.heap.size = w3.heap.size + 1 by rw [hWW4]; simp)
      clear hWW4
      obtain ⟨bG, hbG⟩ : ∃ bG, bG = w3.heap.size := ⟨_, rfl⟩
      have hRG : w.heap.size < bG := by omega
      rw [← hbG] at HBW4 ⊢
      have HROW4 := Lib.hid ((HROW0.out.mono (S' := fun k => w.heap.size < k ∧ k ≠ bG) fun k hk h => ⟨Nat.lt_of_lt_of_le hw2 h, by rw [hbG]; exact Nat.ne_of_lt hk⟩).keepF HAW4.out)
      have HBR4 := Lib.hid (HAW4.out.blk HBR.out (fun h => h))
      have HK4 := Lib.hid (HK3.out.trans HAW4.out)
      have HBG := Lib.hid hbG
      obtain ⟨e1, he1⟩ : ∃ e1, e1 = (if m = true then exOne 8 e0 else e0) := ⟨_, rfl⟩
      have hr1 := HR1.out
      rw [← he1] at hr1
      have HR1 := Lib.hid hr1
      have HE1 := Lib.hid he1
      have hgl := HBW4.out.lt
      clear hr1 he1 hbG
      go_cut [] from 48 to 52 (fun wx => ∃ A1 cc1, Blk wx bG (gotA (.ok e1 j0) A1 cc1) 63 ∧ Blk wx w.heap.size zGot 63 ∧ RdRow (fun k => w.heap.size < k ∧ k ≠ bG) wx e1.list A1 ∧ Keep (fun _ => False) w wx)
      case first =>
        cases m with
        | false =>
          have he1 := HE1.out
          rw [if_neg (by decide)] at he1
          clear HE1
          subst he1
          go_wp2_with fail
          go_meet
          exact ⟨A0, cc0, HBW4.out, HBR4.out, HROW4.out, HK4.out⟩
        | true =>
          have he1 := HE1.out
          rw [if_pos rfl] at he1
          have HE := Lib.hid he1
          clear HE1 he1
          have b10 := HBW4.out.all10
          go_wp2_with fail
          go_meet
          rw [HE.out]
          have hk5 : Keep (· = bG) W4 _ := (((((Keep.refl (· = bG) W4).set1 0 (.int .i64 8)).set1 1 (.int .i64 0)).set1 2 (.string ⟨#[]⟩)).set1 3 (.string ⟨#[]⟩)).set1 4 (.slice (some ⟨W4.heap.size, 0, none⟩) 1 1)
          refine ⟨some ⟨W4.heap.size, 0, none⟩, 1, ?_, ?_, ?_, ?_⟩
          · have hb := ((((HBW4.out.set 0 (.int .i64 8)).set 1 (.int .i64 0)).set 2 (.string ⟨#[]⟩)).set 3 (.string ⟨#[]⟩)).set 4 (.slice (some ⟨W4.heap.size, 0, none⟩) 1 1)
            refine Blk.alloc ?_ _
            rw [gotA_ok]
            simpa [exOne, Ex.op, Ex.num, Ex.name, Ex.field, Ex.list] using hb
          · exact (hk5.blk HBR4.out (by omega)).alloc _
          · refine RdRow.one (t := 25) (e := e0) (A := A0) (c := cc0) ⟨by omega, Ne.symm (Nat.ne_of_lt hgl)⟩ ((HROW4.out.keep hk5 (fun k h1 h2 => h2.2 h1)).keepF ((Keep.refl _ _).alloc _)) (Blk.new' (by simp) _ _)
          · exact (((HK4.out.mono (Q := (· = bG)) (fun _ _ h => h.elim)).trans hk5).mono (Q := fun _ => False) (fun k hk h => by omega)).alloc _
      case rest =>
      obtain ⟨A1, cc1, hbe, hbr, hrow, hkx⟩ := hcut
      have HBE := Lib.hid hbe; have HBRx := Lib.hid hbr; have HROWx := Lib.hid hrow; have HKX := Lib.hid hkx
      clear hbe hbr hrow hkx
      have hk3 : k = 1 ∨ k = 2 ∨ k = 3 := by omega
      have HK3c := Lib.hid hk3
      have tk1 : ((k : Int) == 1) = (k == 1) := by rw [Bool.eq_iff_iff]; simp; omega
      clear hk3
      go_wp2_with fail
      go_loopg [] f (fun n wr => ∃ (x : Ex) (j : Nat) (A : Option Addr) (cc : Nat), Blk wr bG (gotA (.ok x j) A cc) 63 ∧ Blk wr w.heap.size zGot 63 ∧ RdRow (fun k => w.heap.size < k ∧ k ≠ bG) wr x.list A ∧ Keep (fun _ => False) w wr ∧ j ≤ l.length ∧ n < f + 1 ∧ Hid (rm l n (.levL k x) j = some r))
      case atStart => exact ⟨e1, j0, A1, cc1, HBE.out, HBRx.out, HROWx.out, HKX.out, hj0, by omega, HR1.out⟩
      case round =>
        obtain ⟨x, j, A, cc, hbk, hbr, hrow, hkp, hj, hn, HP⟩ := hrel
        rw [gotA_ok] at hbk
        have HBK := Lib.hid hbk; have HBRk := Lib.hid hbr; have HROW := Lib.hid hrow; have HKP := Lib.hid hkp
        clear hbr hrow hkp
        have b10 := hbk.all10
        have hgl := hbk.lt
        clear hbk
        cases gk with
        | zero => exact absurd HP.out (by rw [rm]; simp)
        | succ n =>
        have hP := HP.out
        rw [rm] at hP
        have HSG := Lib.hid (refsign_any g c l k HK3c.out j (by omega) wr (HT.out.keep HKP.out))
        have hsl := signAt_len k l j
        obtain ⟨sg, hsg⟩ : ∃ sg, sg = signAt k l j := ⟨_, rfl⟩
        rw [← hsg] at hP HSG hsl
        obtain ⟨o, no⟩ := sg
        simp only at hP HSG hsl
        have t_o : ((o : Int) == 0) = decide (o = 0) := by rw [Bool.eq_iff_iff]; simp
        have HP2 := Lib.hid hP
        clear hP hsg
        go_wp2_with fail
        refine HSG.out.mono ?_
        rintro e w5 ⟨rfl, hk5⟩
        have HK5 := Lib.hid hk5
        clear b10
        have HBK5 := Lib.hid (hk5.blk HBK.out (fun h => h))
        have HBR5 := Lib.hid (hk5.blk HBRk.out (fun h => h))
        have HROW5 := Lib.hid (HROW.out.keepF hk5)
        have b10 := HBK5.out.all10
        have r10 := HBR5.out.all10
        clear hk5
        by_cases h0 : o = 0
        · rw [decide_eq_true h0] at t_o
          have hP := HP2.out
          rw [if_pos h0] at hP
          obtain rfl : Res.ok x j = r := by injection hP
          clear hP h0
          go_wp2_with fail
          have hkp := fun (X : World) => Keep.put10 (P := (· = w.heap.size)) (b := w.heap.size) (Keep.refl _ X) (.inr rfl) (.int .i64 x.op) (.int .i64 x.num) (.string x.name) (.string x.field) (.slice A x.list.length cc) (.int .i64 j) (.int .i64 0) (.int .i64 0) (.int .i64 0) (.int .i64 0)
          refine bodyPost_ret (v := .agg (gotA (.ok x j) A cc)) (by simp [gotA, resE, resI, resC, resP, results, Tryz.results53, go_sem, r10]) rfl ⟨A, cc, rfl, ?_, ?_⟩
          · exact (HROW5.out.keep (hkp _) (fun k h1 h2 => by omega)).mono (fun k _ h => Nat.le_of_lt h.1)
          · exact Keep.put10 (HKP.out.trans HK5.out) (.inl (Nat.le_refl _)) _ _ _ _ _ _ _ _ _ _
        · rw [decide_eq_false h0] at t_o
          have hP := HP2.out
          rw [if_neg h0] at hP
          obtain ⟨hs1, hs2⟩ := hsl h0
          have e2 : ((j + no : Nat) : Int) = (j : Int) + (no : Int) := by omega
          clear h0
          rcases nxt_some hP with ⟨cb, pb, hr0, rfl⟩ | ⟨h0, jh, hr0, hr1⟩
          · have HLk := HL.out n (by omega) (k + 1) (j + no) w5 _ (by omega) (by omega) hs2 (HT.out.keep (HKP.out.trans HK5.out)) hr0
            rw [ek, e2] at HLk
            have HLK := Lib.hid HLk
            have hcb := rm_bad hr0
            have tcb : ((cb : Int) != 0) = true := by rw [bne_iff_ne]; omega
            clear HLk hr0 hcb hP ek e2
            go_wp2_with fail
            refine HLK.out.mono ?_
            clear b10 r10
            rintro e w6 ⟨A6, cc6, rfl, hrow6, hk6⟩
            have HBR6 := Lib.hid (hk6.blk HBR5.out (fun h => h))
            have r10 := HBR6.out.all10
            have hlt := HBR6.out.lt
            have HK6 := Lib.hid ((HKP.out.trans HK5.out).trans hk6)
            clear hrow6 hk6
            rw [gotA_bad]
            go_wp2_with fail
            refine bodyPost_ret (v := .agg (gotA (.bad cb pb) A6 cc6)) (by simp [gotA_bad, results, Tryz.results53, go_sem, r10, hlt]) rfl ⟨A6, cc6, rfl, RdRow.nil _ _ _, ?_⟩
            exact (Keep.put10 HK6.out (.inl (Nat.le_refl _)) _ _ _ _ _ _ _ _ _ _).alloc _
          · have hjh := rm_le_len hr0 hs2
            have HLk := HL.out n (by omega) (k + 1) (j + no) w5 _ (by omega) (by omega) hs2 (HT.out.keep (HKP.out.trans HK5.out)) hr0
            rw [ek, e2] at HLk
            have HLK := Lib.hid HLk
            have HR2 := Lib.hid hr1
            clear HLk hr0 hr1 hP ek e2
            go_wp2_with fail
            refine HLK.out.mono ?_
            rintro e w6 ⟨A6, cc6, rfl, hrow6, hk6⟩
            have hz5 : bG < w5.heap.size := HBK5.out.lt
            clear b10 r10
            have HROWh := Lib.hid (hrow6.mono (S' := fun k => w.heap.size < k ∧ k ≠ bG) fun k _ h => by have h : w5.heap.size ≤ k := h; omega)
            have HBR6 := Lib.hid (hk6.blk HBR5.out (fun h => h))
            have HBK6 := Lib.hid (hk6.blk HBK5.out (fun h => h))
            have HROW6 := Lib.hid (HROW5.out.keepF hk6)
            have HK6 := Lib.hid ((HKP.out.trans HK5.out).trans hk6)
            have b10 := HBK6.out.all10
            have r10 := HBR6.out.all10
            have hlt := HBR6.out.lt
            have hlt2 := HBK6.out.lt
            clear hrow6 hk6
            rw [gotA_ok]
            have hkg : Keep (· = bG) w6 _ := Keep.put10 (P := (· = bG)) (b := bG) (Keep.refl _ w6) (.inr rfl) (.int .i64 (o : Nat)) (.int .i64 0) (.string ⟨#[]⟩) (.string ⟨#[]⟩) (.slice (some ⟨w6.heap.size + 1, 0, none⟩) 2 2) (.int .i64 (jh : Nat)) (.int .i64 0) (.int .i64 0) (.int .i64 0) (.int .i64 0)
            have HKG := Lib.hid hkg
            have hbn : w.heap.size < w6.heap.size + 1 := by omega
            have hbn2 : w6.heap.size + 1 ≠ bG := by omega
            have HN6 := Lib.hid hbn2
            clear hkg hbn2
            cases hk1 : (k == 1) with
            | true =>
              rw [hk1] at tk1
              have hr2 := HR2.out
              rw [if_pos (by simpa using hk1)] at hr2
              obtain rfl : Res.ok (exTwo o x h0) jh = r := by injection hr2
              clear hr2 hk1
              go_wp2_with fail
              have hne : w.heap.size ≠ bG := Nat.ne_of_lt hRG
              have hkr := fun (X : World) => Keep.put10 (P := (· = w.heap.size)) (b := w.heap.size) (Keep.refl _ X) (.inr rfl) (.int .i64 (o : Nat)) (.int .i64 0) (.string ⟨#[]⟩) (.string ⟨#[]⟩) (.slice (some ⟨w6.heap.size + 1, 0, none⟩) 2 2) (.int .i64 (jh : Nat)) (.int .i64 0) (.int .i64 0) (.int .i64 0) (.int .i64 0)
              refine bodyPost_ret (v := .agg (gotA (.ok (exTwo o x h0) jh) (some ⟨w6.heap.size + 1, 0, none⟩) 2)) (by simp [gotA, resE, resI, resC, resP, exTwo, Ex.op, Ex.num, Ex.name, Ex.field, Ex.list, results, Tryz.results53, go_sem, r10, hlt, hne, Ne.symm hne]) rfl ⟨some ⟨w6.heap.size + 1, 0, none⟩, 2, rfl, ?_, ?_⟩
              · exact (RdRow.two (t := 25) (S := fun k => w.heap.size < k ∧ k ≠ bG) (e := x) (e' := h0) (A := A) (A' := A6) (c := cc) (c' := cc6) ⟨hbn, HN6.out⟩ (((HROW6.out.keep HKG.out (fun k h1 h2 => h2.2 h1)).keep (hkr _) (fun k h1 h2 => by omega)).keepF (((Keep.refl _ _).alloc _).alloc _)) (((HROWh.out.keep HKG.out (fun k h1 h2 => h2.2 h1)).keep (hkr _) (fun k h1 h2 => by omega)).keepF (((Keep.refl _ _).alloc _).alloc _)) (Blk.new' (by simp) _ _)).mono (fun k _ h => Nat.le_of_lt h.1)
              · exact ((Keep.put10 (Keep.put10 HK6.out (.inl (by omega)) _ _ _ _ _ _ _ _ _ _) (.inl (Nat.le_refl _)) _ _ _ _ _ _ _ _ _ _).alloc _).alloc _
            | false =>
              rw [hk1] at tk1
              have hr2 := HR2.out
              rw [if_neg (by simpa using hk1)] at hr2
              have HR3 := Lib.hid hr2
              clear hr2 hk1
              go_wp2_with fail
              go_roundg n
              case measure => omega
              case rel =>
                refine ⟨exTwo o x h0, jh, some ⟨w6.heap.size + 1, 0, none⟩, 2, ((Blk.set10 HBK6.out _ _ _ _ _ _ _ _ _ _).alloc _).alloc _, ((HKG.out.blk HBR6.out (by omega)).alloc _).alloc _, ?_, ?_, hjh, by omega, HR3.out⟩
                · exact RdRow.two (t := 25) (e := x) (e' := h0) (A := A) (A' := A6) (c := cc) (c' := cc6) ⟨hbn, HN6.out⟩ ((HROW6.out.keep HKG.out (fun k h1 h2 => h2.2 h1)).keepF (((Keep.refl _ _).alloc _).alloc _)) ((HROWh.out.keep HKG.out (fun k h1 h2 => h2.2 h1)).keepF (((Keep.refl _ _).alloc _).alloc _)) (Blk.new' (by simp) _ _)
                · exact ((Keep.put10 HK6.out (.inl (by omega)) _ _ _ _ _ _ _ _ _ _).alloc _).alloc _
end Go.Proofs.YtgmmjhelcpgakaaGreatDoor
