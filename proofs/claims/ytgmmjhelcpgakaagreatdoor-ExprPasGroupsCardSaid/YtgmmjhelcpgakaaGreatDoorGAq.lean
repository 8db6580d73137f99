/- The reference of expressions: plain, Named. -/
import Derived.Test.YtgmmjhelcpgakaaGreatDoorGAn
import Derived.Deep.CutRange
namespace Go.Proofs.YtgmmjhelcpgakaaGreatDoor
open Go.RowKit
set_option linter.unusedVariables false
set_option linter.unusedSimpArgs false

theorem tokF1 (a b c d e f g : Value) (w : World) : (Instr.field 50 (.agg #[a, b, c, d, e, f, g]) 1).run Tryz.prog w = .ok b w := by kernel_rfl
def plC (l : List TokL) (i : Nat) : Nat := if (tk l i).kind ≠ 1 then wrC l i else 0
def plP (l : List TokL) (i : Nat) : Pos3 := if (tk l i).kind ≠ 1 then (tk l i).pos else (0, 0, 0)
set_option maxRecDepth 100000 in
set_option maxHeartbeats 4000000 in
theorem refplain_any (g c : Nat) (l : List TokL) (i : Nat) (hi : i ≤ 2000000) (w : World) (h : Tks w g l) :
    Calls Tryz.prog 151 #[.int .i64 0, .slice (some ⟨g, 0, none⟩) l.length c, .int .i64 i] w fun e w' => e = .returned (.agg (diagA (plC l i) (plP l i))) ∧ Keep (fun _ => False) w w' := by
  have hu26 := Tryz.underlying28
  have hu28 := Tryz.underlying30
  have hu38 := Tryz.underlying50
  have HTOK : Hid (∀ W, Keep (fun _ => False) w W → Calls Tryz.prog 24 #[.slice (some ⟨g, 0, none⟩) l.length c, .int .i64 i] W fun e w' => e = .returned (.agg (tokA (tk l i))) ∧ Keep (fun _ => False) W w') := fun W hk => refTok_any g c l i hi W (h.keep hk)
  have HWR : Hid (∀ W, Keep (fun _ => False) w W → Calls Tryz.prog 25 #[.slice (some ⟨g, 0, none⟩) l.length c, .int .i64 i] W fun e w' => e = .returned (.agg (diagA (wrC l i) (tk l i).pos)) ∧ Keep (fun _ => False) W w') := fun W hk => refWrong_any g c l i hi W (h.keep hk)
  unfold plC plP
  generalize wrC l i = k at HWR ⊢
  obtain ⟨t, ht⟩ : ∃ t, t = tk l i := ⟨_, rfl⟩
  rw [← ht] at HTOK HWR ⊢
  have e1 : ((t.kind : Int) != 1) = decide (t.kind ≠ 1) := by rw [Bool.eq_iff_iff]; simp; omega
  clear ht h
  unfold tokA at HTOK
  unfold diagA at HWR
  by_cases h1 : t.kind ≠ 1
  all_goals
    first | rw [decide_eq_true h1] at e1 | rw [decide_eq_false h1] at e1
    first | rw [if_pos h1, if_pos h1] | rw [if_neg h1, if_neg h1]
    clear h1
    go_enter Tryz.func151, Tryz.ntmps151
    go_wp2_with fail
    obtain ⟨W0, hWW0⟩ : ∃ W0, W0 = w.alloc (.cells #[.int .i64 0, .int .i64 0, .int .i64 0, .int .i64 0] 30) := ⟨_, rfl⟩
    rw [← hWW0]
    have HBW0 := Lib.hid (show Blk W0 w.heap.size #[.int .i64 0, .int .i64 0, .int .i64 0, .int .i64 0] 30 by rw [hWW0]; exact Blk.new _ _ _)
    have HAW0 := Lib.hid (show Keep (fun _ => False) w W0 by rw [hWW0]; exact (Keep.refl _ _).alloc _)
    have HZW0 := Lib.hid (show W0.heap.size = w.heap.size + 1 by rw [hWW0]; simp)
    clear hWW0
    refine (HTOK.out W0 HAW0.out).mono ?_
    rintro e w1 ⟨rfl, hk1⟩
    have HK1 := Lib.hid (HAW0.out.trans hk1)
    have HB1 := Lib.hid (hk1.blk HBW0.out (fun h => h))
    clear hk1
    go_upto_region 2 with fail
    obtain ⟨W1, hWW1⟩ : ∃ W1, W1 = w1.alloc (.cells #[.int .i64 t.kind, .string t.text, .int .i64 t.n, .bool t.same, .int .i64 t.pos.1, .int .i64 t.pos.2.1, .int .i64 t.pos.2.2] 50) := ⟨_, rfl⟩
    rw [← hWW1]
    have HBW1 := Lib.hid (show Blk W1 w1.heap.size #[.int .i64 t.kind, .string t.text, .int .i64 t.n, .bool t.same, .int .i64 t.pos.1, .int .i64 t.pos.2.1, .int .i64 t.pos.2.2] 50 by rw [hWW1]; exact Blk.new _ _ _)
    have HAW1 := Lib.hid (show Keep (fun _ => False) w1 W1 by rw [hWW1]; exact (Keep.refl _ _).alloc _)
    have HZW1 := Lib.hid (show W1.heap.size = w1.heap.size + 1 by rw [hWW1]; simp)
    clear hWW1
    have HKa := Lib.hid (HK1.out.trans HAW1.out)
    have HBa := Lib.hid (HAW1.out.blk HB1.out (fun h => h))
    have a7 := HBW1.out.all7
  · go_wp2_with fail
    refine (HWR.out W1 HKa.out).mono ?_
    rintro e w2 ⟨rfl, hk2⟩
    have b4 := (hk2.blk HBa.out (fun h => h)).all4
    have HK2 := Lib.hid (HKa.out.trans hk2)
    clear hk2 a7
    go_wp2_with fail
    refine bodyPost_ret (v := .agg (diagA k t.pos)) (by simp [diagA, results, Tryz.results151, go_sem, b4]) rfl ⟨rfl, ?_⟩
    exact Keep.put4 HK2.out (.inl (Nat.le_refl _)) _ _ _ _
  · have b4 := HBa.out.all4
    go_wp2_with fail
    refine bodyPost_ret (v := .agg (diagA 0 (0, 0, 0))) (by simp [diagA, results, Tryz.results151, go_sem, b4]) rfl ⟨rfl, ?_⟩
    exact Keep.put4 HKa.out (.inl (Nat.le_refl _)) _ _ _ _
set_option maxRecDepth 100000 in
set_option maxHeartbeats 16000000 in
theorem named_ref (l : List TokL) (g c f : Nat) (ihl : ∀ f', f' < f → DoesL l g c f') (ihc : ∀ f', f' < f → DoesC l g c f') : DoesN l g c f := by
  intro i w r hi ht hr
  have hu := Tryz.underlying63
  have hue := Tryz.underlying25
  have hud := Tryz.underlying30
  have hu26 := Tryz.underlying28
  have hu38 := Tryz.underlying50
  have hbig := ht.big
  cases f with
  | zero => cases hr
  | succ f =>
  rw [rm] at hr
  have HT := Lib.hid ht
  have HL := Lib.hid ihl; have HC0 := Lib.hid ihc
  clear ihl ihc ht
  have HIS : Hid (∀ (j : Nat) (s : ByteArray) W, j ≤ 2000000 → Keep (fun _ => False) w W → Calls Tryz.prog 94 #[.slice (some ⟨g, 0, none⟩) l.length c, .int .i64 j, .string s] W fun e w' => e = .returned (.bool (isT l j s)) ∧ Keep (fun _ => False) W w') := fun j s W hj hk => refIs_any g c l j hj s W (HT.out.keep hk)
  have HTOK : Hid (∀ (j : Nat) W, j ≤ 2000000 → Keep (fun _ => False) w W → Calls Tryz.prog 24 #[.slice (some ⟨g, 0, none⟩) l.length c, .int .i64 j] W fun e w' => e = .returned (.agg (tokA (tk l j))) ∧ Keep (fun _ => False) W w') := fun j W hj hk => refTok_any g c l j hj W (HT.out.keep hk)
  have HWR : Hid (∀ (j : Nat) W, j ≤ 2000000 → Keep (fun _ => False) w W → Calls Tryz.prog 126 #[.slice (some ⟨g, 0, none⟩) l.length c, .int .i64 j] W (GPost (wrongAt l j) W)) := fun j W hj hk => refwrong_any g c l j hj W (HT.out.keep hk)
  have HR := Lib.hid hr
  clear hr
  have hw1 : IntKind.i64.wrap ((i : Int) + 1) = ((i + 1 : Nat) : Int) := by rw [IntWalk.i64_in _ (by omega)]; omega
  go_enter Tryz.func127, Tryz.ntmps127
  go_wp2_with fail
  obtain ⟨W0, hWW0⟩ : ∃ W0, W0 = w.alloc (.cells #[.int .i64 0, .int .i64 0, .string ⟨#[]⟩, .string ⟨#[]⟩, .slice none 0 0, .int .i64 0, .int .i64 0, .int .i64 0, .int .i64 0, .int .i64 0] 63) := ⟨_, rfl⟩
  rw [← hWW0]
  have HBW0 := Lib.hid (show Blk W0 w.heap.size #[.int .i64 0, .int .i64 0, .string ⟨#[]⟩, .string ⟨#[]⟩, .slice none 0 0, .int .i64 0, .int .i64 0, .int .i64 0, .int .i64 0, .int .i64 0] 63 by rw [hWW0]; exact Blk.new _ _ _)
  have HAW0 := Lib.hid (show Keep (fun _ => False) w W0 by rw [hWW0]; exact (Keep.refl _ _).alloc _)
  have HZW0 := Lib.hid (show W0.heap.size = w.heap.size + 1 by rw [hWW0]; simp)
  clear hWW0
  obtain ⟨t, htk⟩ : ∃ t, t = tk l i := ⟨_, rfl⟩
  have HTK0 := HTOK.out i W0 (by omega) HAW0.out
  rw [← htk] at HTK0
  unfold tokA at HTK0
  have HTK := Lib.hid HTK0
  have HTE := Lib.hid htk
  clear HTK0 htk
  refine HTK.out.mono ?_
  rintro e w1 ⟨rfl, hk1⟩
  have HK1 := Lib.hid (HAW0.out.trans hk1)
  have HBR1 := Lib.hid (hk1.blk HBW0.out (fun h => h))
  clear hk1
  go_upto_region 2 with fail
  obtain ⟨W1, hWW1⟩ : ∃ W1, W1 = w1.alloc (.cells #[.int .i64 t.kind, .string t.text, .int .i64 t.n, .bool t.same, .int .i64 t.pos.1, .int .i64 t.pos.2.1, .int .i64 t.pos.2.2] 50) := ⟨_, rfl⟩
  rw [← hWW1]
  have HBW1 := Lib.hid (show Blk W1 w1.heap.size #[.int .i64 t.kind, .string t.text, .int .i64 t.n, .bool t.same, .int .i64 t.pos.1, .int .i64 t.pos.2.1, .int .i64 t.pos.2.2] 50 by rw [hWW1]; exact Blk.new _ _ _)
  have HAW1 := Lib.hid (show Keep (fun _ => False) w1 W1 by rw [hWW1]; exact (Keep.refl _ _).alloc _)
  have HZW1 := Lib.hid (show W1.heap.size = w1.heap.size + 1 by rw [hWW1]; simp)
  clear hWW1
  have HKa := Lib.hid (HK1.out.trans HAW1.out)
  have HBW1x := Lib.hid (HAW1.out.blk HBR1.out (fun h => h))
  obtain ⟨bT, hbT⟩ : ∃ bT, bT = w1.heap.size := ⟨_, rfl⟩
  have hRT : w.heap.size < bT := by rw [hbT]; exact HBR1.out.lt
  rw [← hbT] at HBW1 ⊢
  have HTW1 := Lib.hid HBW1.out
  clear hbT HBW1
  have HBW1 := HBW1x
  clear HBW1x
  have hw2 : IntKind.i64.wrap ((i : Int) + 2) = ((i + 2 : Nat) : Int) := by rw [IntWalk.i64_in _ (by omega)]; omega
  have hw3 : IntKind.i64.wrap ((i : Int) + 3) = ((i + 3 : Nat) : Int) := by rw [IntWalk.i64_in _ (by omega)]; omega
  have HPL : Hid (∀ W, Keep (fun _ => False) w W → Calls Tryz.prog 151 #[.int .i64 0, .slice (some ⟨g, 0, none⟩) l.length c, .int .i64 (i + 2 : Nat)] W fun e w' => e = .returned (.agg (diagA (plC l (i + 2)) (plP l (i + 2)))) ∧ Keep (fun _ => False) W w') := fun W hk => refplain_any g c l (i + 2) (by omega) W (HT.out.keep hk)
  have e1 : ((t.kind : Int) != 1) = decide (t.kind ≠ 1) := by rw [Bool.eq_iff_iff]; simp; omega
  have a7 := HTW1.out.all7
  have b10 := HBW1.out.all10
  have hr := HR.out
  rw [← HTE.out] at hr
  have HR := Lib.hid hr
  clear hr
  by_cases h1 : t.kind ≠ 1
  · rw [decide_eq_true h1] at e1
    have hr := HR.out
    rw [if_pos h1] at hr
    obtain rfl : wrongAt l i = r := by injection hr
    clear hr h1 HR b10
    go_wp2_with fail
    refine (HWR.out i W1 (by omega) HKa.out).mono ?_
    rintro e wf ⟨A2, cc2, rfl, hrow2, hkf⟩
    have b10 := (hkf.blk HBW1.out (fun h => h)).all10
    have HKf := Lib.hid (HKa.out.trans hkf)
    clear hrow2 hkf a7
    rw [wrongAt_eq, gotA_bad]
    go_wp2_with fail
    refine bodyPost_ret (v := .agg (gotA (.bad (wrC l i) (tk l i).pos) A2 cc2)) (by simp [gotA, resE, resI, resC, resP, exNil, exVar, exOne, Ex.op, Ex.num, Ex.name, Ex.field, Ex.list, results, Tryz.results127, go_sem, b10]) rfl ⟨A2, cc2, rfl, ?_, ?_⟩
    · exact RdRow.nil _ _ _
    · exact (Keep.put10 (HKf.out) (.inl (Nat.le_refl _)) _ _ _ _ _ _ _ _ _ _)
  rw [decide_eq_false h1] at e1
  have hr := HR.out
  rw [if_neg h1] at hr
  have HR := Lib.hid hr
  have hi1 : i + 1 ≤ l.length := by have : (tk l i).kind ≠ 0 := by rw [← HTE.out]; omega
                                    exact tk_kind_in this
  clear hr h1 b10
  go_wp2_with fail
  refine (HIS.out (i + 1) gOpen W1 (by omega) HKa.out).mono ?_
  rintro e wa ⟨rfl, hkx⟩
  have HKwa := Lib.hid (HKa.out.trans hkx)
  have HBwa := Lib.hid (hkx.blk HBW1.out (fun h => h))
  have HTwa := Lib.hid (hkx.blk HTW1.out (fun h => h))
  clear hkx
  clear a7
  have a7 := HTwa.out.all7
  cases hb1 : isT l (i + 1) gOpen with
  | true =>
    have hr := HR.out
    rw [if_pos hb1] at hr
    have hi2 : i + 2 ≤ l.length := isT_in hb1
    have HC := Lib.hid (HC0.out f (by omega) t.text (i + 2) wa r hi2 (HT.out.keep HKwa.out) hr)
    have hltR := HBwa.out.lt
    clear hr hb1 HR
    go_wp2_with fail
    refine HC.out.mono ?_
    rintro e wf ⟨A, cc, rfl, hrow, hkf⟩
    have HROW := Lib.hid hrow
    have b10 := (hkf.blk HBwa.out (fun h => h)).all10
    have HKf := Lib.hid (HKwa.out.trans hkf)
    clear hrow hkf a7
    unfold gotA
    go_wp2_with fail
    have hkp := fun (X : World) => Keep.put10 (P := (· = w.heap.size)) (b := w.heap.size) (Keep.refl _ X) (.inr rfl) (.int .i64 (resE r).op) (.int .i64 (resE r).num) (.string (resE r).name) (.string (resE r).field) (.slice A (resE r).list.length cc) (.int .i64 (resI 0 r : Nat)) (.int .i64 (resC r : Nat)) (.int .i64 (resP r).1) (.int .i64 (resP r).2.1) (.int .i64 (resP r).2.2)
    refine bodyPost_ret (v := .agg (gotA r A cc)) (by simp [gotA, results, Tryz.results127, go_sem, b10]) rfl ⟨A, cc, rfl, ?_, ?_⟩
    · exact ((HROW.out.keep (hkp _) (fun k h1 h2 => by have h2 : wa.heap.size ≤ k := h2; omega)).base (Nat.le_of_lt hltR))
    · exact (Keep.put10 (HKf.out) (.inl (Nat.le_refl _)) _ _ _ _ _ _ _ _ _ _)
  | false =>
  have hr := HR.out
  rw [if_neg (by rw [hb1]; decide)] at hr
  have HR := Lib.hid hr
  clear hr hb1 a7
  go_wp2_with fail
  refine (HIS.out (i + 1) gOpenB wa (by omega) HKwa.out).mono ?_
  rintro e wb ⟨rfl, hkx⟩
  have HKwb := Lib.hid (HKwa.out.trans hkx)
  have HBwb := Lib.hid (hkx.blk HBwa.out (fun h => h))
  have HTwb := Lib.hid (hkx.blk HTwa.out (fun h => h))
  clear hkx
  have a7 := HTwb.out.all7
  cases hb1 : isT l (i + 1) gOpenB with
  | true =>
    have hr := HR.out
    rw [if_pos hb1] at hr
    have hltR := HBwb.out.lt
    have hltT := HTwb.out.lt
    have hi2 : i + 2 ≤ l.length := isT_in hb1
    clear hb1 HR
    rcases nxt_some hr with ⟨cb, pb, hr0, rfl⟩ | ⟨e0, j0, hr0, hr1⟩
    · have hc := HL.out f (by omega) 1 (i + 2) wb _ (by omega) (by omega) hi2 (HT.out.keep HKwb.out) hr0
      rw [show ((1 : Nat) : Int) = 1 from rfl] at hc
      have HC := Lib.hid hc
      have hcb := rm_bad hr0
      have tcb : ((cb : Int) != 0) = true := by rw [bne_iff_ne]; omega
      clear hr hr0 hcb hc
      go_wp2_with fail
      refine HC.out.mono ?_
      rintro e wc ⟨A, cc, rfl, hrow, hkb⟩
      have HBc := Lib.hid (hkb.blk HBwb.out (fun h => h))
      have b10 := HBc.out.all10
      have hlt := HBc.out.lt
      have HKc := Lib.hid (HKwb.out.trans hkb)
      clear hrow hkb a7
      rw [gotA_bad]
      go_wp2_with fail
      refine bodyPost_ret (v := .agg (gotA (.bad cb pb) A cc)) (by simp [gotA, resE, resI, resC, resP, exNil, exVar, exOne, Ex.op, Ex.num, Ex.name, Ex.field, Ex.list, results, Tryz.results127, go_sem, b10, hlt]) rfl ⟨A, cc, rfl, ?_, ?_⟩
      · exact RdRow.nil _ _ _
      · exact (Keep.put10 (HKc.out) (.inl (Nat.le_refl _)) _ _ _ _ _ _ _ _ _ _).alloc _
    · have hj0 := rm_le_len hr0 hi2
      have hc := HL.out f (by omega) 1 (i + 2) wb _ (by omega) (by omega) hi2 (HT.out.keep HKwb.out) hr0
      rw [show ((1 : Nat) : Int) = 1 from rfl] at hc
      have HC := Lib.hid hc
      have HR1 := Lib.hid hr1
      clear hr hr0 hr1 hc
      go_wp2_with fail
      refine HC.out.mono ?_
      rintro e wc ⟨A, cc, rfl, hrow, hkb⟩
      have HROW := Lib.hid hrow
      have HBc := Lib.hid (hkb.blk HBwb.out (fun h => h))
      have HTc := Lib.hid (hkb.blk HTwb.out (fun h => h))
      have HKc := Lib.hid (HKwb.out.trans hkb)
      clear hrow hkb a7
      rw [gotA_ok]
      go_upto_region 12 with fail
      obtain ⟨Wd, hWWd⟩ : ∃ Wd, Wd = wc.alloc (.cells #[.int .i64 e0.op, .int .i64 e0.num, .string e0.name, .string e0.field, .slice A e0.list.length cc, .int .i64 j0, .int .i64 0, .int .i64 0, .int .i64 0, .int .i64 0] 63) := ⟨_, rfl⟩
      rw [← hWWd]
      have HBWd := Lib.hid (show Blk Wd wc.heap.size #[.int .i64 e0.op, .int .i64 e0.num, .string e0.name, .string e0.field, .slice A e0.list.length cc, .int .i64 j0, .int .i64 0, .int .i64 0, .int .i64 0, .int .i64 0] 63 by rw [hWWd]; exact Blk.new _ _ _)
      have HAWd := Lib.hid (show Keep (fun _ => False) wc Wd by rw [hWWd]; exact (Keep.refl _ _).alloc _)
      have HZWd := Lib.hid (show Wd.heap.size = wc.heap.size + 1 by rw [hWWd]; simp)
      clear hWWd
      obtain ⟨bG, hbG⟩ : ∃ bG, bG = wc.heap.size := ⟨_, rfl⟩
      have hRG : w.heap.size < bG := by rw [hbG]; exact HBc.out.lt
      rw [← hbG] at HBWd ⊢
      have HKd := Lib.hid (HKc.out.trans HAWd.out)
      have HBd := Lib.hid (HAWd.out.blk HBc.out (fun h => h))
      have HTd := Lib.hid (HAWd.out.blk HTc.out (fun h => h))
      have HROWd := Lib.hid ((HROW.out.mono (S' := fun k => w.heap.size < k) fun k hk h => Nat.lt_of_lt_of_le hltR h).keepF HAWd.out)
      have g10 := HBWd.out.all10
      have hwj : IntKind.i64.wrap ((j0 : Int) + 1) = ((j0 + 1 : Nat) : Int) := by rw [IntWalk.i64_in _ (by omega)]; omega
      clear hbG
      go_wp2_with fail
      refine (HIS.out j0 gCloseB Wd (by omega) HKd.out).mono ?_
      rintro e we ⟨rfl, hke⟩
      have HKe := Lib.hid (HKd.out.trans hke)
      have HBe := Lib.hid (hke.blk HBd.out (fun h => h))
      have HGe := Lib.hid (hke.blk HBWd.out (fun h => h))
      have HTe := Lib.hid (hke.blk HTd.out (fun h => h))
      have HROWe := Lib.hid (HROWd.out.keepF hke)
      clear g10 hke
      have g10 := HGe.out.all10
      have b10 := HBe.out.all10
      have t7 := HTe.out.all7
      have hr1 := HR1.out
      cases hb2 : isT l j0 gCloseB with
      | false =>
        rw [if_neg (by rw [hb2]; decide)] at hr1
        obtain rfl : wrongAt l j0 = r := by injection hr1
        clear hr1 hb2 HR1
        go_wp2_with fail
        refine (HWR.out j0 we (by omega) HKe.out).mono ?_
        rintro e wf ⟨A2, cc2, rfl, hrow2, hkf⟩
        clear b10 g10 t7
        have b10 := (hkf.blk HBe.out (fun h => h)).all10
        have HKf := Lib.hid (HKe.out.trans hkf)
        clear hrow2 hkf
        rw [wrongAt_eq, gotA_bad]
        go_wp2_with fail
        refine bodyPost_ret (v := .agg (gotA (.bad (wrC l j0) (tk l j0).pos) A2 cc2)) (by simp [gotA, resE, resI, resC, resP, exNil, exVar, exOne, Ex.op, Ex.num, Ex.name, Ex.field, Ex.list, results, Tryz.results127, go_sem, b10]) rfl ⟨A2, cc2, rfl, ?_, ?_⟩
        · exact RdRow.nil _ _ _
        · exact (Keep.put10 (HKf.out) (.inl (Nat.le_refl _)) _ _ _ _ _ _ _ _ _ _)
      | true =>
        rw [if_pos hb2] at hr1
        obtain rfl : Res.ok (.mk 5 0 t.text eS [e0]) (j0 + 1) = r := by injection hr1
        clear hr1 hb2 HR1
        have hltR2 := HBe.out.lt
        have hltG := HGe.out.lt
        have hltT2 := HTe.out.lt
        go_wp2_with fail
        have hkp := fun (X : World) => Keep.put10 (P := (· = w.heap.size)) (b := w.heap.size) (Keep.refl _ X) (.inr rfl) (.int .i64 5) (.int .i64 0) (.string t.text) (.string ⟨#[]⟩) (.slice (some ⟨we.heap.size, 0, none⟩) 1 1) (.int .i64 ((j0 : Int) + 1)) (.int .i64 0) (.int .i64 0) (.int .i64 0) (.int .i64 0)
        refine bodyPost_ret (v := .agg (gotA (.ok (.mk 5 0 t.text eS [e0]) (j0 + 1)) (some ⟨we.heap.size, 0, none⟩) 1)) (by simp [gotA, resE, resI, resC, resP, exNil, exVar, exOne, Ex.op, Ex.num, Ex.name, Ex.field, Ex.list, results, Tryz.results127, go_sem, b10, hltR2]) rfl ⟨(some ⟨we.heap.size, 0, none⟩), 1, rfl, ?_, ?_⟩
        · exact RdRow.one (t := 25) (e := e0) (A := A) (c := cc) (Nat.le_of_lt hltR2) (((HROWe.out.keep (hkp _) (fun k h1 h2 => by omega)).keepF ((Keep.refl _ _).alloc _)).mono (fun k _ h => Nat.le_of_lt h)) (Blk.new' (by simp) _ _)
        · exact (Keep.put10 (HKe.out) (.inl (Nat.le_refl _)) _ _ _ _ _ _ _ _ _ _).alloc _
  | false =>
  have hr := HR.out
  rw [if_neg (by rw [hb1]; decide)] at hr
  have HR := Lib.hid hr
  clear hr hb1 a7
  go_wp2_with fail
  refine (HIS.out (i + 1) gDot wb (by omega) HKwb.out).mono ?_
  rintro e wc ⟨rfl, hkx⟩
  have HKwc := Lib.hid (HKwb.out.trans hkx)
  have HBwc := Lib.hid (hkx.blk HBwb.out (fun h => h))
  have HTwc := Lib.hid (hkx.blk HTwb.out (fun h => h))
  clear hkx
  have a7 := HTwc.out.all7
  have b10 := HBwc.out.all10
  cases hb1 : isT l (i + 1) gDot with
  | false =>
    have hr := HR.out
    rw [if_neg (by rw [hb1]; decide)] at hr
    obtain rfl : Res.ok (exVar t.text) (i + 1) = r := by injection hr
    clear hr hb1 HR
    go_wp2_with fail
    refine bodyPost_ret (v := .agg (gotA (.ok (exVar t.text) (i + 1)) none 0)) (by simp [gotA, resE, resI, resC, resP, exNil, exVar, exOne, Ex.op, Ex.num, Ex.name, Ex.field, Ex.list, results, Tryz.results127, go_sem, b10]) rfl ⟨none, 0, rfl, ?_, ?_⟩
    · exact RdRow.nil _ _ _
    · exact (Keep.put10 (HKwc.out) (.inl (Nat.le_refl _)) _ _ _ _ _ _ _ _ _ _)
  | true =>
  have hr := HR.out
  rw [if_pos hb1] at hr
  have HR := Lib.hid hr
  have hltR := HBwc.out.lt
  have hltT := HTwc.out.lt
  clear hr hb1
  clear b10
  go_wp2_with fail
  refine (HPL.out wc HKwc.out).mono ?_
  rintro e wd ⟨rfl, hkd⟩
  have HKd := Lib.hid (HKwc.out.trans hkd)
  have HBd := Lib.hid (hkd.blk HBwc.out (fun h => h))
  have HTd := Lib.hid (hkd.blk HTwc.out (fun h => h))
  clear a7 hkd
  unfold plC plP diagA
  have hr := HR.out
  by_cases hk2 : (tk l (i + 2)).kind ≠ 1
  · rw [if_pos hk2] at hr
    obtain rfl : wrongAt l (i + 2) = r := by injection hr
    rw [if_pos hk2, if_pos hk2]
    have hwc : wrC l (i + 2) ≠ 0 := by unfold wrC; split <;> decide
    have tcb : ((wrC l (i + 2) : Int) != 0) = true := by rw [bne_iff_ne]; omega
    have b10 := HBd.out.all10
    have hlt := HBd.out.lt
    clear hr hk2 HR hwc
    go_wp2_with fail
    rw [wrongAt_eq]
    refine bodyPost_ret (v := .agg (gotA (.bad (wrC l (i + 2)) (tk l (i + 2)).pos) none 0)) (by simp [gotA, resE, resI, resC, resP, exNil, exVar, exOne, Ex.op, Ex.num, Ex.name, Ex.field, Ex.list, results, Tryz.results127, go_sem, b10, hlt]) rfl ⟨none, 0, rfl, ?_, ?_⟩
    · exact RdRow.nil _ _ _
    · exact (Keep.put10 (HKd.out) (.inl (Nat.le_refl _)) _ _ _ _ _ _ _ _ _ _).alloc _
  · rw [if_neg hk2] at hr
    obtain rfl : Res.ok (.mk 6 0 t.text (tk l (i + 2)).text []) (i + 3) = r := by injection hr
    rw [if_neg hk2, if_neg hk2]
    clear hr hk2 HR
    go_upto_region 19 with fail
    obtain ⟨We, hWWe⟩ : ∃ We, We = wd.alloc (.cells #[.int .i64 0, .int .i64 0, .int .i64 0, .int .i64 0] 30) := ⟨_, rfl⟩
    rw [← hWWe]
    have HBWe := Lib.hid (show Blk We wd.heap.size #[.int .i64 0, .int .i64 0, .int .i64 0, .int .i64 0] 30 by rw [hWWe]; exact Blk.new _ _ _)
    have HAWe := Lib.hid (show Keep (fun _ => False) wd We by rw [hWWe]; exact (Keep.refl _ _).alloc _)
    have HZWe := Lib.hid (show We.heap.size = wd.heap.size + 1 by rw [hWWe]; simp)
    clear hWWe
    have HKe := Lib.hid (HKd.out.trans HAWe.out)
    have HBe := Lib.hid (HAWe.out.blk HBd.out (fun h => h))
    have HTe := Lib.hid (HAWe.out.blk HTd.out (fun h => h))
    have t7 := HTe.out.all7
    have b10 := HBe.out.all10
    have hd3 : Keep (fun _ => False) We We.drew := (Keep.refl _ We).drew
    have HD3 := Lib.hid hd3
    clear hd3
    have fd1 := tokF1
    have HK2 := HTOK.out (i + 2) We.drew (by omega) (HKe.out.trans HD3.out)
    unfold tokA at HK2
    have HK2' := Lib.hid HK2
    clear HK2
    go_region_with (go_at_call 24; refine HK2'.out.mono ?_; rintro e wf ⟨rfl, hkf⟩; have HKf := Lib.hid (HD3.out.trans hkf); have t7f := (HKf.out.blk HTe.out (fun h => h)).all7; have b10f := (HKf.out.blk HBe.out (fun h => h)).all10; clear hkf)
    all_goals
      go_wp2_with fail
      refine bodyPost_ret (v := .agg (gotA (.ok (.mk 6 0 t.text (tk l (i + 2)).text []) (i + 3)) none 0)) (by simp [gotA, resE, resI, resC, resP, exNil, exVar, exOne, Ex.op, Ex.num, Ex.name, Ex.field, Ex.list, results, Tryz.results127, go_sem, b10f]) rfl ⟨none, 0, rfl, ?_, ?_⟩
      · exact RdRow.nil _ _ _
      · exact (Keep.put10 (HKe.out.trans HKf.out) (.inl (Nat.le_refl _)) _ _ _ _ _ _ _ _ _ _)
end Go.Proofs.YtgmmjhelcpgakaaGreatDoor
