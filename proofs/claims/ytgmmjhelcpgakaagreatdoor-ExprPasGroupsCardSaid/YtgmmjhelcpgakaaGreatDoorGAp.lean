/- The reference of expressions: factor. -/
import Derived.Test.YtgmmjhelcpgakaaGreatDoorGAn
import Derived.Deep.CutRange
namespace Go.Proofs.YtgmmjhelcpgakaaGreatDoor
open Go.RowKit
set_option linter.unusedVariables false
set_option linter.unusedSimpArgs false

set_option maxRecDepth 100000 in
set_option maxHeartbeats 16000000 in
theorem factor_ref (l : List TokL) (g c f : Nat) (ihl : ∀ f', f' < f → DoesL l g c f') (ihf : ∀ f', f' < f → DoesF l g c f') (ihn : ∀ f', f' < f → DoesN l g c f') : DoesF l g c f := by
  intro i w r hi ht hr
  have hu := Tryz.underlying63
  have hue := Tryz.underlying25
  have hud := Tryz.underlying30
  have hu26 := Tryz.underlying28
  have hu38 := Tryz.underlying50
  have hbig := ht.big
  cases f with
  | zero => cases hr
  | succ f =>
  rw [rm] at hr
  have HT := Lib.hid ht
  have HL := Lib.hid ihl; have HF := Lib.hid ihf; have HN := Lib.hid ihn
  clear ihl ihf ihn ht
  have HIS : Hid (∀ (j : Nat) (s : ByteArray) W, j ≤ 2000000 → Keep (fun _ => False) w W → Calls Tryz.prog 94 #[.slice (some ⟨g, 0, none⟩) l.length c, .int .i64 j, .string s] W fun e w' => e = .returned (.bool (isT l j s)) ∧ Keep (fun _ => False) W w') := fun j s W hj hk => refIs_any g c l j hj s W (HT.out.keep hk)
  have HTOK : Hid (∀ (j : Nat) W, j ≤ 2000000 → Keep (fun _ => False) w W → Calls Tryz.prog 24 #[.slice (some ⟨g, 0, none⟩) l.length c, .int .i64 j] W fun e w' => e = .returned (.agg (tokA (tk l j))) ∧ Keep (fun _ => False) W w') := fun j W hj hk => refTok_any g c l j hj W (HT.out.keep hk)
  have HWR : Hid (∀ (j : Nat) W, j ≤ 2000000 → Keep (fun _ => False) w W → Calls Tryz.prog 126 #[.slice (some ⟨g, 0, none⟩) l.length c, .int .i64 j] W (GPost (wrongAt l j) W)) := fun j W hj hk => refwrong_any g c l j hj W (HT.out.keep hk)
  have HR := Lib.hid hr
  clear hr
  have hw1 : IntKind.i64.wrap ((i : Int) + 1) = ((i + 1 : Nat) : Int) := by rw [IntWalk.i64_in _ (by omega)]; omega
  go_enter Tryz.func93, Tryz.ntmps93
  go_wp2_with fail
  obtain ⟨W0, hWW0⟩ : ∃ W0, W0 = w.alloc (.cells #[.int .i64 0, .int .i64 0, .string ⟨#[]⟩, .string ⟨#[]⟩, .slice none 0 0, .int .i64 0, .int .i64 0, .int .i64 0, .int .i64 0, .int .i64 0] 63) := ⟨_, rfl⟩
  rw [← hWW0]
  have HBW0 := Lib.hid (show Blk W0 w.heap.size #[.int .i64 0, .int .i64 0, .string ⟨#[]⟩, .string ⟨#[]⟩, .slice none 0 0, .int .i64 0, .int .i64 0, .int .i64 0, .int .i64 0, .int .i64 0] 63 by rw [hWW0]; exact Blk.new _ _ _)
  have HAW0 := Lib.hid (show Keep (fun _ => False) w W0 by rw [hWW0]; exact (Keep.refl _ _).alloc _)
  have HZW0 := Lib.hid (show W0.heap.size = w.heap.size + 1 by rw [hWW0]; simp)
  clear hWW0
  obtain ⟨t, htk⟩ : ∃ t, t = tk l i := ⟨_, rfl⟩
  have HTK0 := HTOK.out i W0 (by omega) HAW0.out
  rw [← htk] at HTK0
  unfold tokA at HTK0
  have HTK := Lib.hid HTK0
  have HTE := Lib.hid htk
  clear HTK0 htk
  refine HTK.out.mono ?_
  rintro e w1 ⟨rfl, hk1⟩
  have HK1 := Lib.hid (HAW0.out.trans hk1)
  have HBR1 := Lib.hid (hk1.blk HBW0.out (fun h => h))
  clear hk1
  go_upto_region 2 with fail
  obtain ⟨W1, hWW1⟩ : ∃ W1, W1 = w1.alloc (.cells #[.int .i64 t.kind, .string t.text, .int .i64 t.n, .bool t.same, .int .i64 t.pos.1, .int .i64 t.pos.2.1, .int .i64 t.pos.2.2] 50) := ⟨_, rfl⟩
  rw [← hWW1]
  have HBW1 := Lib.hid (show Blk W1 w1.heap.size #[.int .i64 t.kind, .string t.text, .int .i64 t.n, .bool t.same, .int .i64 t.pos.1, .int .i64 t.pos.2.1, .int .i64 t.pos.2.2] 50 by rw [hWW1]; exact Blk.new _ _ _)
  have HAW1 := Lib.hid (show Keep (fun _ => False) w1 W1 by rw [hWW1]; exact (Keep.refl _ _).alloc _)
  have HZW1 := Lib.hid (show W1.heap.size = w1.heap.size + 1 by rw [hWW1]; simp)
  clear hWW1
  have HKa := Lib.hid (HK1.out.trans HAW1.out)
  have HBW1x := Lib.hid (HAW1.out.blk HBR1.out (fun h => h))
  obtain ⟨bT, hbT⟩ : ∃ bT, bT = w1.heap.size := ⟨_, rfl⟩
  have hRT : w.heap.size < bT := by rw [hbT]; exact HBR1.out.lt
  rw [← hbT] at HBW1 ⊢
  have HTW1 := Lib.hid HBW1.out
  clear hbT HBW1
  have HBW1 := HBW1x
  clear HBW1x
  go_wp2_with fail
  refine (HIS.out (i) wNot W1 (by omega) HKa.out).mono ?_
  rintro e wa ⟨rfl, hkx⟩
  have HKwa := Lib.hid (HKa.out.trans hkx)
  have HBwa := Lib.hid (hkx.blk HBW1.out (fun h => h))
  have HTwa := Lib.hid (hkx.blk HTW1.out (fun h => h))
  clear hkx
  cases hb1 : isT l i wNot with
  | true =>
    have hr := HR.out
    rw [if_pos hb1] at hr
    have htx : t.text = wNot := by rw [HTE.out]; exact isT_text hb1
    have tx : (t.text.toList == [45]) = false := by rw [htx, beq_lit]; decide
    have a7 := HTwa.out.all7
    have hltT := HTwa.out.lt
    have hltR := HBwa.out.lt
    have hi1 : i + 1 ≤ l.length := isT_in hb1
    clear hb1 HR htx
    rcases nxt_some hr with ⟨cb, pb, hr0, rfl⟩ | ⟨e0, j0, hr0, hr1⟩
    · have HC := Lib.hid (HF.out f (by omega) (i + 1) wa _ hi1 (HT.out.keep HKwa.out) hr0)
      have hcb := rm_bad hr0
      have tcb : ((cb : Int) == 0) = false := by rw [beq_eq_false_iff_ne]; omega
      clear hr hr0 hcb
      go_wp2_with fail
      refine HC.out.mono ?_
      rintro e wb ⟨A, cc, rfl, hrow, hkb⟩
      have HBb := Lib.hid (hkb.blk HBwa.out (fun h => h))
      have HTb := Lib.hid (hkb.blk HTwa.out (fun h => h))
      have b10 := HBb.out.all10
      have t7 := HTb.out.all7
      have hlt := HBb.out.lt
      have hlt2 := HTb.out.lt
      have HKb := Lib.hid (HKwa.out.trans hkb)
      clear hrow hkb a7
      rw [gotA_bad]
      go_wp2_with fail
      refine bodyPost_ret (v := .agg (gotA (.bad cb pb) A cc)) (by simp [gotA, resE, resI, resC, resP, exNil, exVar, exOne, Ex.op, Ex.num, Ex.name, Ex.field, Ex.list, results, Tryz.results93, go_sem, b10, hlt]) rfl ⟨A, cc, rfl, ?_, ?_⟩
      · exact RdRow.nil _ _ _
      · exact (Keep.put10 (HKb.out) (.inl (Nat.le_refl _)) _ _ _ _ _ _ _ _ _ _).alloc _
    · have HC := Lib.hid (HF.out f (by omega) (i + 1) wa _ hi1 (HT.out.keep HKwa.out) hr0)
      obtain rfl : Res.ok (exOne 9 e0) j0 = r := by injection hr1
      clear hr hr0 hr1
      go_wp2_with fail
      refine HC.out.mono ?_
      rintro e wb ⟨A, cc, rfl, hrow, hkb⟩
      have HROW := Lib.hid hrow
      have HBb := Lib.hid (hkb.blk HBwa.out (fun h => h))
      have HTb := Lib.hid (hkb.blk HTwa.out (fun h => h))
      have b10 := HBb.out.all10
      have t7 := HTb.out.all7
      have hlt := HBb.out.lt
      have hlt2 := HTb.out.lt
      have HKb := Lib.hid (HKwa.out.trans hkb)
      clear hrow hkb a7
      rw [gotA_ok]
      go_wp2_with fail
      have hkp := fun (X : World) => Keep.put10 (P := (· = w.heap.size)) (b := w.heap.size) (Keep.refl _ X) (.inr rfl) (.int .i64 9) (.int .i64 0) (.string ⟨#[]⟩) (.string ⟨#[]⟩) (.slice (some ⟨wb.heap.size + 1, 0, none⟩) 1 1) (.int .i64 j0) (.int .i64 0) (.int .i64 0) (.int .i64 0) (.int .i64 0)
      refine bodyPost_ret (v := .agg (gotA (.ok (exOne 9 e0) j0) (some ⟨wb.heap.size + 1, 0, none⟩) 1)) (by simp [gotA, resE, resI, resC, resP, exNil, exVar, exOne, Ex.op, Ex.num, Ex.name, Ex.field, Ex.list, results, Tryz.results93, go_sem, b10, hlt]) rfl ⟨(some ⟨wb.heap.size + 1, 0, none⟩), 1, rfl, ?_, ?_⟩
      · exact RdRow.one (t := 25) (e := e0) (A := A) (c := cc) (by show w.heap.size ≤ _; omega) (((HROW.out.keep (hkp _) (fun k h1 h2 => by have h2 : wa.heap.size ≤ k := h2; omega)).keepF (((Keep.refl _ _).alloc _).alloc _)).base (Nat.le_of_lt hltR)) (Blk.new' (by simp) _ _)
      · exact (Keep.put10 (HKb.out) (.inl (Nat.le_refl _)) _ _ _ _ _ _ _ _ _ _).alloc _ |>.alloc _
  | false =>
  have hr := HR.out
  rw [if_neg (by rw [hb1]; decide)] at hr
  have HR := Lib.hid hr
  clear hr hb1
  go_wp2_with fail
  refine (HIS.out (i) gOpen wa (by omega) HKwa.out).mono ?_
  rintro e wb ⟨rfl, hkx⟩
  have HKwb := Lib.hid (HKwa.out.trans hkx)
  have HBwb := Lib.hid (hkx.blk HBwa.out (fun h => h))
  have HTwb := Lib.hid (hkx.blk HTwa.out (fun h => h))
  clear hkx
  cases hb1 : isT l i gOpen with
  | true =>
    have hr := HR.out
    rw [if_pos hb1] at hr
    have hltR := HBwb.out.lt
    have hi1 : i + 1 ≤ l.length := isT_in hb1
    clear hb1 HR
    rcases nxt_some hr with ⟨cb, pb, hr0, rfl⟩ | ⟨e0, j0, hr0, hr1⟩
    · have hc := HL.out f (by omega) 1 (i + 1) wb _ (by omega) (by omega) hi1 (HT.out.keep HKwb.out) hr0
      rw [show ((1 : Nat) : Int) = 1 from rfl] at hc
      have HC := Lib.hid hc
      have hcb := rm_bad hr0
      have tcb : ((cb : Int) != 0) = true := by rw [bne_iff_ne]; omega
      clear hr hr0 hcb hc
      go_wp2_with fail
      refine HC.out.mono ?_
      rintro e wc ⟨A, cc, rfl, hrow, hkb⟩
      have HBc := Lib.hid (hkb.blk HBwb.out (fun h => h))
      have b10 := HBc.out.all10
      have hlt := HBc.out.lt
      have HKc := Lib.hid (HKwb.out.trans hkb)
      clear hrow hkb
      rw [gotA_bad]
      go_wp2_with fail
      refine bodyPost_ret (v := .agg (gotA (.bad cb pb) A cc)) (by simp [gotA, resE, resI, resC, resP, exNil, exVar, exOne, Ex.op, Ex.num, Ex.name, Ex.field, Ex.list, results, Tryz.results93, go_sem, b10, hlt]) rfl ⟨A, cc, rfl, ?_, ?_⟩
      · exact RdRow.nil _ _ _
      · exact (Keep.put10 (HKc.out) (.inl (Nat.le_refl _)) _ _ _ _ _ _ _ _ _ _).alloc _
    · have hj0 := rm_le_len hr0 hi1
      have hc := HL.out f (by omega) 1 (i + 1) wb _ (by omega) (by omega) hi1 (HT.out.keep HKwb.out) hr0
      rw [show ((1 : Nat) : Int) = 1 from rfl] at hc
      have HC := Lib.hid hc
      have HR1 := Lib.hid hr1
      clear hr hr0 hr1 hc
      go_wp2_with fail
      refine HC.out.mono ?_
      rintro e wc ⟨A, cc, rfl, hrow, hkb⟩
      have HROW := Lib.hid hrow
      have HBc := Lib.hid (hkb.blk HBwb.out (fun h => h))
      have HKc := Lib.hid (HKwb.out.trans hkb)
      clear hrow hkb
      rw [gotA_ok]
      go_upto_region 17 with fail
      obtain ⟨Wd, hWWd⟩ : ∃ Wd, Wd = wc.alloc (.cells #[.int .i64 e0.op, .int .i64 e0.num, .string e0.name, .string e0.field, .slice A e0.list.length cc, .int .i64 j0, .int .i64 0, .int .i64 0, .int .i64 0, .int .i64 0] 63) := ⟨_, rfl⟩
      rw [← hWWd]
      have HBWd := Lib.hid (show Blk Wd wc.heap.size #[.int .i64 e0.op, .int .i64 e0.num, .string e0.name, .string e0.field, .slice A e0.list.length cc, .int .i64 j0, .int .i64 0, .int .i64 0, .int .i64 0, .int .i64 0] 63 by rw [hWWd]; exact Blk.new _ _ _)
      have HAWd := Lib.hid (show Keep (fun _ => False) wc Wd by rw [hWWd]; exact (Keep.refl _ _).alloc _)
      have HZWd := Lib.hid (show Wd.heap.size = wc.heap.size + 1 by rw [hWWd]; simp)
      clear hWWd
      obtain ⟨bG, hbG⟩ : ∃ bG, bG = wc.heap.size := ⟨_, rfl⟩
      have hRG : w.heap.size < bG := by rw [hbG]; exact HBc.out.lt
      rw [← hbG] at HBWd ⊢
      have HKd := Lib.hid (HKc.out.trans HAWd.out)
      have HBd := Lib.hid (HAWd.out.blk HBc.out (fun h => h))
      have HROWd := Lib.hid ((HROW.out.mono (S' := fun k => w.heap.size < k ∧ k ≠ bG) fun k hk h => ⟨Nat.lt_of_lt_of_le hltR h, by rw [hbG]; exact Nat.ne_of_lt hk⟩).keepF HAWd.out)
      have g10 := HBWd.out.all10
      have hwj : IntKind.i64.wrap ((j0 : Int) + 1) = ((j0 + 1 : Nat) : Int) := by rw [IntWalk.i64_in _ (by omega)]; omega
      clear hbG
      go_wp2_with fail
      refine (HIS.out j0 gClose Wd (by omega) HKd.out).mono ?_
      rintro e we ⟨rfl, hke⟩
      have HKe := Lib.hid (HKd.out.trans hke)
      have HBe := Lib.hid (hke.blk HBd.out (fun h => h))
      have HGe := Lib.hid (hke.blk HBWd.out (fun h => h))
      have HROWe := Lib.hid (HROWd.out.keepF hke)
      clear g10 hke
      have g10 := HGe.out.all10
      have b10 := HBe.out.all10
      have hr1 := HR1.out
      cases hb2 : isT l j0 gClose with
      | false =>
        rw [if_neg (by rw [hb2]; decide)] at hr1
        obtain rfl : wrongAt l j0 = r := by injection hr1
        clear hr1 hb2 HR1
        go_wp2_with fail
        refine (HWR.out j0 we (by omega) HKe.out).mono ?_
        rintro e wf ⟨A2, cc2, rfl, hrow2, hkf⟩
        clear b10 g10
        have b10 := (hkf.blk HBe.out (fun h => h)).all10
        have HKf := Lib.hid (HKe.out.trans hkf)
        clear hrow2 hkf
        rw [wrongAt_eq, gotA_bad]
        go_wp2_with fail
        refine bodyPost_ret (v := .agg (gotA (.bad (wrC l j0) (tk l j0).pos) A2 cc2)) (by simp [gotA, resE, resI, resC, resP, exNil, exVar, exOne, Ex.op, Ex.num, Ex.name, Ex.field, Ex.list, results, Tryz.results93, go_sem, b10]) rfl ⟨A2, cc2, rfl, ?_, ?_⟩
        · exact RdRow.nil _ _ _
        · exact (Keep.put10 (HKf.out) (.inl (Nat.le_refl _)) _ _ _ _ _ _ _ _ _ _)
      | true =>
        rw [if_pos hb2] at hr1
        obtain rfl : Res.ok e0 (j0 + 1) = r := by injection hr1
        clear hr1 hb2 HR1
        have hne : w.heap.size ≠ bG := Nat.ne_of_lt hRG
        go_wp2_with fail
        have hkp := fun (X : World) => Keep.put10 (P := (· = w.heap.size)) (b := w.heap.size) (Keep.refl _ X) (.inr rfl) (.int .i64 e0.op) (.int .i64 e0.num) (.string e0.name) (.string e0.field) (.slice A e0.list.length cc) (.int .i64 ((j0 : Int) + 1)) (.int .i64 0) (.int .i64 0) (.int .i64 0) (.int .i64 0)
        refine bodyPost_ret (v := .agg (gotA (.ok e0 (j0 + 1)) A cc)) (by simp [gotA, resE, resI, resC, resP, exNil, exVar, exOne, Ex.op, Ex.num, Ex.name, Ex.field, Ex.list, results, Tryz.results93, go_sem, b10, g10, hne, Ne.symm hne]) rfl ⟨A, cc, rfl, ?_, ?_⟩
        · exact (((HROWe.out.keep ((Keep.refl (· = bG) we).set1 5 (.int .i64 ((j0 : Int) + 1))) (fun k h1 h2 => h2.2 h1)).keep (hkp _) (fun k h1 h2 => by omega))).mono (fun k _ h => Nat.le_of_lt h.1)
        · exact (Keep.put10 ((((HKe.out.mono (Q := (· = bG)) (fun _ _ h => h.elim)).set1 5 (.int .i64 ((j0 : Int) + 1))).mono (Q := fun _ => False) (fun k hk h => by omega))) (.inl (Nat.le_refl _)) _ _ _ _ _ _ _ _ _ _)
  | false =>
  have hr := HR.out
  rw [if_neg (by rw [hb1]; decide)] at hr
  have HR := Lib.hid hr
  clear hr hb1
  go_wp2_with fail
  refine (HIS.out (i) wTrue wb (by omega) HKwb.out).mono ?_
  rintro e wc ⟨rfl, hkx⟩
  have HKwc := Lib.hid (HKwb.out.trans hkx)
  have HBwc := Lib.hid (hkx.blk HBwb.out (fun h => h))
  have HTwc := Lib.hid (hkx.blk HTwb.out (fun h => h))
  clear hkx
  have b10 := HBwc.out.all10
  cases hb1 : isT l i wTrue with
  | true =>
    have hr := HR.out
    rw [if_pos hb1] at hr
    obtain rfl : Res.ok (.mk 2 1 eS eS []) (i + 1) = r := by injection hr
    clear hr hb1 HR
    go_wp2_with fail
    refine bodyPost_ret (v := .agg (gotA (.ok (.mk 2 1 eS eS []) (i + 1)) none 0)) (by simp [gotA, resE, resI, resC, resP, exNil, exVar, exOne, Ex.op, Ex.num, Ex.name, Ex.field, Ex.list, results, Tryz.results93, go_sem, b10]) rfl ⟨none, 0, rfl, ?_, ?_⟩
    · exact RdRow.nil _ _ _
    · exact (Keep.put10 (HKwc.out) (.inl (Nat.le_refl _)) _ _ _ _ _ _ _ _ _ _)
  | false =>
  have hr := HR.out
  rw [if_neg (by rw [hb1]; decide)] at hr
  have HR := Lib.hid hr
  clear hr hb1 b10
  go_wp2_with fail
  refine (HIS.out (i) wFalse wc (by omega) HKwc.out).mono ?_
  rintro e wd ⟨rfl, hkx⟩
  have HKwd := Lib.hid (HKwc.out.trans hkx)
  have HBwd := Lib.hid (hkx.blk HBwc.out (fun h => h))
  have HTwd := Lib.hid (hkx.blk HTwc.out (fun h => h))
  clear hkx
  have b10 := HBwd.out.all10
  have t7 := HTwd.out.all7
  cases hb1 : isT l i wFalse with
  | true =>
    have hr := HR.out
    rw [if_pos hb1] at hr
    obtain rfl : Res.ok (.mk 2 0 eS eS []) (i + 1) = r := by injection hr
    clear hr hb1 HR
    go_wp2_with fail
    refine bodyPost_ret (v := .agg (gotA (.ok (.mk 2 0 eS eS []) (i + 1)) none 0)) (by simp [gotA, resE, resI, resC, resP, exNil, exVar, exOne, Ex.op, Ex.num, Ex.name, Ex.field, Ex.list, results, Tryz.results93, go_sem, b10]) rfl ⟨none, 0, rfl, ?_, ?_⟩
    · exact RdRow.nil _ _ _
    · exact (Keep.put10 (HKwd.out) (.inl (Nat.le_refl _)) _ _ _ _ _ _ _ _ _ _)
  | false =>
  have hr := HR.out
  rw [if_neg (by rw [hb1]; decide), ← HTE.out] at hr
  have e3 : ((t.kind : Int) == 3) = decide (t.kind = 3) := by rw [Bool.eq_iff_iff]; simp; omega
  have e4 : ((t.kind : Int) == 4) = decide (t.kind = 4) := by rw [Bool.eq_iff_iff]; simp; omega
  clear hb1 HR
  by_cases h3 : t.kind = 3
  · rw [if_pos h3] at hr
    rw [decide_eq_true h3] at e3
    obtain rfl : Res.ok (.mk 1 t.n eS eS []) (i + 1) = r := by injection hr
    clear hr h3 e4
    go_wp2_with fail
    refine bodyPost_ret (v := .agg (gotA (.ok (.mk 1 t.n eS eS []) (i + 1)) none 0)) (by simp [gotA, resE, resI, resC, resP, exNil, exVar, exOne, Ex.op, Ex.num, Ex.name, Ex.field, Ex.list, results, Tryz.results93, go_sem, b10]) rfl ⟨none, 0, rfl, ?_, ?_⟩
    · exact RdRow.nil _ _ _
    · exact (Keep.put10 (HKwd.out) (.inl (Nat.le_refl _)) _ _ _ _ _ _ _ _ _ _)
  rw [if_neg h3] at hr
  rw [decide_eq_false h3] at e3
  by_cases h4 : t.kind = 4
  · rw [if_pos h4] at hr
    rw [decide_eq_true h4] at e4
    obtain rfl : Res.ok (.mk 3 t.n eS eS []) (i + 1) = r := by injection hr
    clear hr h3 h4
    go_wp2_with fail
    refine bodyPost_ret (v := .agg (gotA (.ok (.mk 3 t.n eS eS []) (i + 1)) none 0)) (by simp [gotA, resE, resI, resC, resP, exNil, exVar, exOne, Ex.op, Ex.num, Ex.name, Ex.field, Ex.list, results, Tryz.results93, go_sem, b10]) rfl ⟨none, 0, rfl, ?_, ?_⟩
    · exact RdRow.nil _ _ _
    · exact (Keep.put10 (HKwd.out) (.inl (Nat.le_refl _)) _ _ _ _ _ _ _ _ _ _)
  rw [if_neg h4] at hr
  rw [decide_eq_false h4] at e4
  have HC := Lib.hid (HN.out f (by omega) i wd r hi (HT.out.keep HKwd.out) hr)
  have hltR := HBwd.out.lt
  clear hr h3 h4 b10
  go_wp2_with fail
  refine HC.out.mono ?_
  rintro e wf ⟨A, cc, rfl, hrow, hkf⟩
  have HROW := Lib.hid hrow
  have HBf := Lib.hid (hkf.blk HBwd.out (fun h => h))
  have b10 := HBf.out.all10
  have HKf := Lib.hid (HKwd.out.trans hkf)
  clear hrow hkf t7
  unfold gotA
  go_wp2_with fail
  have hkp := fun (X : World) => Keep.put10 (P := (· = w.heap.size)) (b := w.heap.size) (Keep.refl _ X) (.inr rfl) (.int .i64 (resE r).op) (.int .i64 (resE r).num) (.string (resE r).name) (.string (resE r).field) (.slice A (resE r).list.length cc) (.int .i64 (resI 0 r : Nat)) (.int .i64 (resC r : Nat)) (.int .i64 (resP r).1) (.int .i64 (resP r).2.1) (.int .i64 (resP r).2.2)
  refine bodyPost_ret (v := .agg (gotA r A cc)) (by simp [gotA, results, Tryz.results93, go_sem, b10]) rfl ⟨A, cc, rfl, ?_, ?_⟩
  · exact ((HROW.out.keep (hkp _) (fun k h1 h2 => by have h2 : wd.heap.size ≤ k := h2; omega)).base (Nat.le_of_lt hltR))
  · exact (Keep.put10 (HKf.out) (.inl (Nat.le_refl _)) _ _ _ _ _ _ _ _ _ _)
end Go.Proofs.YtgmmjhelcpgakaaGreatDoor
