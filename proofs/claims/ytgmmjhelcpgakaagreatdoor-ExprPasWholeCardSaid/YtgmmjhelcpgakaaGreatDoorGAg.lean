/- Package exprpas: factor. -/
import Derived.Test.YtgmmjhelcpgakaaGreatDoorGX
import Derived.Deep.RegionLaw
import Derived.Deep.RegionHeld3
namespace Go.Proofs.YtgmmjhelcpgakaaGreatDoor
open Go.RowKit
set_option linter.unusedVariables false
set_option linter.unusedSimpArgs false

set_option maxRecDepth 100000 in
set_option maxHeartbeats 16000000 in
theorem factor_any (l : List TokL) (b g c : Nat) (f : Nat) (ih : ∀ f', f' < f → Does l b g c 146 .factor f') (ihe : ∀ f', f' < f → Does l b g c 48 .expr f') (ihn : ∀ f', f' < f → Does l b g c 180 .named f') : Does l b g c 146 .factor f := by
  intro st w e st' hrd hpm
  have hu := Tryz.underlying25
  have hu26 := Tryz.underlying28
  have hu38 := Tryz.underlying50
  cases f with
  | zero => cases hpm
  | succ f =>
    rw [pm] at hpm
    have HF := Lib.hid ih; have HE := Lib.hid ihe; have HN := Lib.hid ihn
    have HRD := Lib.hid hrd
    have hbw := hrd.blk.lt
    have hgw := hrd.glt
    have HPM := Lib.hid hpm
    clear hpm ih ihe ihn hrd
    go_enter Tryz.func146, Tryz.ntmps146
    go_upto_region 1 with fail
    obtain ⟨W0, hWW0⟩ : ∃ W0, W0 = w.alloc (.cells #[.int .i64 0, .int .i64 0, .string ⟨#[]⟩, .string ⟨#[]⟩, .slice none 0 0] 25) := ⟨_, rfl⟩
    rw [← hWW0]
    have HBW0 := Lib.hid (show Blk W0 w.heap.size #[.int .i64 0, .int .i64 0, .string ⟨#[]⟩, .string ⟨#[]⟩, .slice none 0 0] 25 by rw [hWW0]; exact Blk.new _ _ _)
    have HAW0 := Lib.hid (show Keep (fun _ => False) w W0 by rw [hWW0]; exact (Keep.refl _ _).alloc _)
    have HZW0 := Lib.hid (show W0.heap.size = w.heap.size + 1 by rw [hWW0]; simp)
    clear hWW0
    have HRD0 := Lib.hid (HRD.out.keepF HAW0.out)
    have HK0 := Lib.hid (HAW0.out.mono (Q := (· = b)) (fun _ _ h => h.elim))
    have hb0 : b < W0.heap.size := HRD0.out.blk.lt
    go_wp2_with fail
    obtain ⟨Wa, hWWa⟩ : ∃ Wa, Wa = W0.alloc (.cells #[.string wNot] 9) := ⟨_, rfl⟩
    rw [← hWWa]
    have HBWa := Lib.hid (show Blk Wa W0.heap.size #[.string wNot] 9 by rw [hWWa]; exact Blk.new _ _ _)
    have HAWa := Lib.hid (show Keep (fun _ => False) W0 Wa by rw [hWWa]; exact (Keep.refl _ _).alloc _)
    have HZWa := Lib.hid (show Wa.heap.size = W0.heap.size + 1 by rw [hWWa]; simp)
    clear hWWa
    refine (take_any b g c l st W0.heap.size 1 1 [wNot] Wa (HRD0.out.keepF HAWa.out) (textR_blk HBWa.out) rfl (by decide)).mono ?_
    rintro en wa ⟨rfl, hrdx, hkx⟩
    have HRDwa := Lib.hid hrdx
    have HKwa := Lib.hid (HK0.out.trans ((HAWa.out.mono (Q := (· = b)) (fun _ _ h => h.elim)).trans hkx))
    have HB0wa := Lib.hid (hkx.blk (HAWa.out.blk HBW0.out (fun h => h)) (Ne.symm (Nat.ne_of_lt hbw)))
    clear hrdx hkx
    cases hpwa : isP l st [wNot] with
    | true =>
      have hpm := HPM.out
      rw [hpwa, if_pos rfl] at hpm
      obtain ⟨e1, st1, hf1, hl1⟩ := thn_some hpm
      obtain ⟨rfl, rfl⟩ : exOne 9 e1 = e ∧ st1 = st' := by injection hl1 with h; injection h with h1 h2; exact ⟨h1, h2⟩
      have HF1 := Lib.hid hf1
      clear hpm hf1 hl1 hpwa
      go_wp2_with fail
      refine (HF.out f (by omega) _ wa e1 st1 HRDwa.out HF1.out).mono ?_
      rintro en w1 ⟨A1, cc1, rfl, hrow1, hrd1, hk1⟩
      have HROW1 := Lib.hid hrow1; have HRD1 := Lib.hid hrd1; have HK1 := Lib.hid hk1
      have HB1 := Lib.hid (hk1.blk HB0wa.out (Ne.symm (Nat.ne_of_lt hbw)))
      clear hrow1 hrd1 hk1
      have b5 := HB1.out.all5
      have hb1 := HB1.out.lt
      unfold exA
      go_wp2_with fail
      have hsz := HB0wa.out.lt
      have hkr := fun (X : World) => Keep.put5 (P := (· = w.heap.size)) (b := w.heap.size) (Keep.refl _ X) (.inr rfl) (.int .i64 (exOne 9 e1).op) (.int .i64 (exOne 9 e1).num) (.string (exOne 9 e1).name) (.string (exOne 9 e1).field) (.slice (some ⟨w1.heap.size, 0, none⟩) (exOne 9 e1).list.length 1)
      refine bodyPost_ret (v := .agg (exA (exOne 9 e1) (some ⟨w1.heap.size, 0, none⟩) 1)) (by simp [exA, results, Tryz.results146, go_sem, b5, hb1, exOne, Ex.op, Ex.num, Ex.name, Ex.field, Ex.list]) rfl ⟨(some ⟨w1.heap.size, 0, none⟩), 1, rfl, ?_, ?_, ?_⟩
      · exact RdRow.one (t := 25) (e := e1) (A := A1) (c := cc1) (Nat.le_of_lt hb1) (((HROW1.out.keep (hkr _) (fun k h1 h2 => by have h2 : wa.heap.size ≤ k := h2; omega)).keepF ((Keep.refl _ _).alloc _)).base (Nat.le_of_lt hsz)) (Blk.new' (by simp) _ _)
      · exact (HRD1.out.keep (hkr _) (by omega) (by omega)).keepF ((Keep.refl _ _).alloc _)
      · exact (Keep.put5 (HKwa.out.trans HK1.out) (.inl (Nat.le_refl _)) _ _ _ _ _).alloc _
    | false =>
      have hpm := HPM.out
      clear HPM
      have hSwa : takeS l st [wNot] = st := by unfold takeS; rw [hpwa]; rfl
      rw [hSwa] at HRDwa
      rw [hpwa, if_neg (by decide)] at hpm
      clear hpwa hSwa
      have HPM := Lib.hid hpm
      clear hpm
      go_wp2_with fail
      obtain ⟨Wb, hWWb⟩ : ∃ Wb, Wb = wa.alloc (.cells #[.string gOpen] 9) := ⟨_, rfl⟩
      rw [← hWWb]
      have HBWb := Lib.hid (show Blk Wb wa.heap.size #[.string gOpen] 9 by rw [hWWb]; exact Blk.new _ _ _)
      have HAWb := Lib.hid (show Keep (fun _ => False) wa Wb by rw [hWWb]; exact (Keep.refl _ _).alloc _)
      have HZWb := Lib.hid (show Wb.heap.size = wa.heap.size + 1 by rw [hWWb]; simp)
      clear hWWb
      refine (take_any b g c l st wa.heap.size 1 1 [gOpen] Wb (HRDwa.out.keepF HAWb.out) (textR_blk HBWb.out) rfl (by decide)).mono ?_
      rintro en wb ⟨rfl, hrdx, hkx⟩
      have HRDwb := Lib.hid hrdx
      have HKwb := Lib.hid (HKwa.out.trans ((HAWb.out.mono (Q := (· = b)) (fun _ _ h => h.elim)).trans hkx))
      have HB0wb := Lib.hid (hkx.blk (HAWb.out.blk HB0wa.out (fun h => h)) (Ne.symm (Nat.ne_of_lt hbw)))
      clear hrdx hkx
      cases hpwb : isP l st [gOpen] with
      | true =>
        have hpm := HPM.out
        rw [hpwb, if_pos rfl] at hpm
        obtain ⟨e1, st1, hf1, hl1⟩ := thn_some hpm
        obtain ⟨rfl, rfl⟩ : e1 = e ∧ mustS l st1 gClose = st' := by injection hl1 with h; injection h with h1 h2; exact ⟨h1, h2⟩
        have HF1 := Lib.hid hf1
        clear hpm hf1 hl1 hpwb
        go_wp2_with fail
        refine (HE.out f (by omega) _ wb e1 st1 HRDwb.out HF1.out).mono ?_
        rintro en w1 ⟨A1, cc1, rfl, hrow1, hrd1, hk1⟩
        have HROW1 := Lib.hid hrow1; have HRD1 := Lib.hid hrd1; have HK1 := Lib.hid hk1
        have HB1 := Lib.hid (hk1.blk HB0wb.out (Ne.symm (Nat.ne_of_lt hbw)))
        clear hrow1 hrd1 hk1
        unfold exA
        go_upto_region 7 with fail
        obtain ⟨W2, hWW2⟩ : ∃ W2, W2 = w1.alloc (.cells #[.int .i64 e1.op, .int .i64 e1.num, .string e1.name, .string e1.field, .slice A1 e1.list.length cc1] 25) := ⟨_, rfl⟩
        rw [← hWW2]
        have HBW2 := Lib.hid (show Blk W2 w1.heap.size #[.int .i64 e1.op, .int .i64 e1.num, .string e1.name, .string e1.field, .slice A1 e1.list.length cc1] 25 by rw [hWW2]; exact Blk.new _ _ _)
        have HAW2 := Lib.hid (show Keep (fun _ => False) w1 W2 by rw [hWW2]; exact (Keep.refl _ _).alloc _)
        have HZW2 := Lib.hid (show W2.heap.size = w1.heap.size + 1 by rw [hWW2]; simp)
        clear hWW2
        have hb2 : b < W2.heap.size := (HRD1.out.keepF HAW2.out).blk.lt
        go_wp2_with fail
        obtain ⟨W3, hWW3⟩ : ∃ W3, W3 = W2.alloc (.cells #[.string gClose] 9) := ⟨_, rfl⟩
        rw [← hWW3]
        have HBW3 := Lib.hid (show Blk W3 W2.heap.size #[.string gClose] 9 by rw [hWW3]; exact Blk.new _ _ _)
        have HAW3 := Lib.hid (show Keep (fun _ => False) W2 W3 by rw [hWW3]; exact (Keep.refl _ _).alloc _)
        have HZW3 := Lib.hid (show W3.heap.size = W2.heap.size + 1 by rw [hWW3]; simp)
        clear hWW3
        refine (must_any b g c l st1 W2.heap.size 1 1 [gClose] W3 ((HRD1.out.keepF HAW2.out).keepF HAW3.out) (textR_blk HBW3.out) (by omega) rfl (by decide)).mono ?_
        rintro en w4 ⟨rfl, hrd4, hk4⟩
        rw [mustsS_one] at hrd4
        have HRD4 := Lib.hid hrd4
        have HK4 := Lib.hid ((((HAW2.out.trans HAW3.out).mono (Q := (· = b)) (fun _ _ h => h.elim))).trans hk4)
        have HBE := Lib.hid ((((HAW3.out.mono (Q := (· = b)) (fun _ _ h => h.elim))).trans hk4).blk HBW2.out (Ne.symm (Nat.ne_of_lt HRD1.out.blk.lt)))
        have HB4 := Lib.hid (HK4.out.blk HB1.out (Ne.symm (Nat.ne_of_lt hbw)))
        clear hrd4 hk4
        have a5 := HBE.out.all5
        have b5 := HB4.out.all5
        have hsz := HB0wb.out.lt
        go_wp2_with fail
        have hkr := fun (X : World) => Keep.put5 (P := (· = w.heap.size)) (b := w.heap.size) (Keep.refl _ X) (.inr rfl) (.int .i64 (e1).op) (.int .i64 (e1).num) (.string (e1).name) (.string (e1).field) (.slice A1 (e1).list.length cc1)
        refine bodyPost_ret (v := .agg (exA (e1) A1 cc1)) (by simp [exA, results, Tryz.results146, go_sem, b5]) rfl ⟨A1, cc1, rfl, ?_, ?_, ?_⟩
        · exact ((HROW1.out.keep HK4.out (fun k h1 h2 => by have h2 : wb.heap.size ≤ k := h2; omega)).keep (hkr _) (fun k h1 h2 => by have h2 : wb.heap.size ≤ k := h2; omega)).base (Nat.le_of_lt hsz)
        · exact HRD4.out.keep (hkr _) (by omega) (by omega)
        · exact Keep.put5 ((HKwb.out.trans HK1.out).trans HK4.out) (.inl (Nat.le_refl _)) _ _ _ _ _
      | false =>
        have hpm := HPM.out
        clear HPM
        have hSwb : takeS l st [gOpen] = st := by unfold takeS; rw [hpwb]; rfl
        rw [hSwb] at HRDwb
        rw [hpwb, if_neg (by decide)] at hpm
        clear hpwb hSwb
        have HPM := Lib.hid hpm
        clear hpm
        go_wp2_with fail
        obtain ⟨Wc, hWWc⟩ : ∃ Wc, Wc = wb.alloc (.cells #[.string wTrue, .string wFalse] 9) := ⟨_, rfl⟩
        rw [← hWWc]
        have HBWc := Lib.hid (show Blk Wc wb.heap.size #[.string wTrue, .string wFalse] 9 by rw [hWWc]; exact Blk.new _ _ _)
        have HAWc := Lib.hid (show Keep (fun _ => False) wb Wc by rw [hWWc]; exact (Keep.refl _ _).alloc _)
        have HZWc := Lib.hid (show Wc.heap.size = wb.heap.size + 1 by rw [hWWc]; simp)
        clear hWWc
        refine (take_any b g c l st wb.heap.size 2 2 [wTrue, wFalse] Wc (HRDwb.out.keepF HAWc.out) (textR_blk HBWc.out) rfl (by decide)).mono ?_
        rintro en wc ⟨rfl, hrdx, hkx⟩
        have HRDwc := Lib.hid hrdx
        have HKwc := Lib.hid (HKwb.out.trans ((HAWc.out.mono (Q := (· = b)) (fun _ _ h => h.elim)).trans hkx))
        have HB0wc := Lib.hid (hkx.blk (HAWc.out.blk HB0wb.out (fun h => h)) (Ne.symm (Nat.ne_of_lt hbw)))
        clear hrdx hkx
        cases hpwc : isP l st [wTrue, wFalse] with
        | true =>
          have hpm := HPM.out
          rw [hpwc, if_pos rfl] at hpm
          have hmem := isP_text hpwc
          obtain ⟨s, hs⟩ : ∃ s, s = takeT l st [wTrue, wFalse] := ⟨_, rfl⟩
          rw [← hs] at hpm hmem ⊢
          obtain ⟨rfl, rfl⟩ : Ex.mk 2 (if s = wTrue then 1 else 0) eS eS [] = e ∧ takeS l st [wTrue, wFalse] = st' := by injection hpm with h; injection h with h1 h2; exact ⟨h1, h2⟩
          clear hpm hs hpwc HPM
          have b5 := HB0wc.out.all5
          have hsz := HB0wc.out.lt
          simp only [List.mem_cons, List.not_mem_nil, or_false] at hmem
          rcases hmem with rfl | rfl
          · go_wp2_with fail
            have hkr := fun (X : World) => Keep.put5 (P := (· = w.heap.size)) (b := w.heap.size) (Keep.refl _ X) (.inr rfl) (.int .i64 (Ex.mk 2 1 eS eS []).op) (.int .i64 (Ex.mk 2 1 eS eS []).num) (.string (Ex.mk 2 1 eS eS []).name) (.string (Ex.mk 2 1 eS eS []).field) (.slice none (Ex.mk 2 1 eS eS []).list.length 0)
            refine bodyPost_ret (v := .agg (exA (Ex.mk 2 1 eS eS []) none 0)) (by simp [exA, results, Tryz.results146, go_sem, b5, hsz, Ex.op, Ex.num, Ex.name, Ex.field, Ex.list]) rfl ⟨none, 0, rfl, ?_, ?_, ?_⟩
            · exact RdRow.nil _ _ _
            · exact (HRDwc.out.keep (hkr _) (by omega) (by omega)).keepF ((Keep.refl _ _).alloc _)
            · exact (Keep.put5 (HKwc.out) (.inl (Nat.le_refl _)) _ _ _ _ _).alloc _
          · go_wp2_with fail
            have hkr := fun (X : World) => Keep.put5 (P := (· = w.heap.size)) (b := w.heap.size) (Keep.refl _ X) (.inr rfl) (.int .i64 (Ex.mk 2 0 eS eS []).op) (.int .i64 (Ex.mk 2 0 eS eS []).num) (.string (Ex.mk 2 0 eS eS []).name) (.string (Ex.mk 2 0 eS eS []).field) (.slice none (Ex.mk 2 0 eS eS []).list.length 0)
            refine bodyPost_ret (v := .agg (exA (Ex.mk 2 0 eS eS []) none 0)) (by simp [exA, results, Tryz.results146, go_sem, b5, hsz, Ex.op, Ex.num, Ex.name, Ex.field, Ex.list]) rfl ⟨none, 0, rfl, ?_, ?_, ?_⟩
            · exact RdRow.nil _ _ _
            · exact (HRDwc.out.keep (hkr _) (by omega) (by omega)).keepF ((Keep.refl _ _).alloc _)
            · exact (Keep.put5 (HKwc.out) (.inl (Nat.le_refl _)) _ _ _ _ _).alloc _
        | false =>
          have hpm := HPM.out
          clear HPM
          have hSwc : takeS l st [wTrue, wFalse] = st := by unfold takeS; rw [hpwc]; rfl
          rw [hSwc] at HRDwc
          rw [hpwc, if_neg (by decide)] at hpm
          clear hpwc hSwc
          have HPM := Lib.hid hpm
          clear hpm
          go_wp2_with fail
          refine (rof_any b g c l st 3 (by decide) wc HRDwc.out).mono ?_
          rintro en wd ⟨rfl, hrdx, hkx⟩
          have HRDwd := Lib.hid hrdx
          have HKwd := Lib.hid (HKwc.out.trans hkx)
          have HB0wd := Lib.hid (hkx.blk HB0wc.out (Ne.symm (Nat.ne_of_lt hbw)))
          clear hrdx hkx
          obtain ⟨twd, htwd⟩ : ∃ t, t = ofT l st 3 := ⟨_, rfl⟩
          rw [← htwd]
          unfold tokA
          cases hpwd : isOf l st 3 with
          | true =>
            have hpm := HPM.out
            rw [hpwd, if_pos rfl] at hpm
            have hT : twd = tk l st.at_ := by rw [htwd]; unfold ofT; rw [hpwd]; rfl
            have hSx : ofS l st 3 = st.up := by unfold ofS; rw [hpwd]; rfl
            rw [hSx] at HRDwd
            rw [← hT] at hpm
            obtain ⟨rfl, rfl⟩ : Ex.mk 1 twd.n eS eS [] = e ∧ st.up = st' := by injection hpm with h; injection h with h1 h2; exact ⟨h1, h2⟩
            clear hpm hT hSx htwd hpwd HPM
            have b5 := HB0wd.out.all5
            have hsz := HB0wd.out.lt
            go_wp2_with fail
            have hkr := fun (X : World) => Keep.put5 (P := (· = w.heap.size)) (b := w.heap.size) (Keep.refl _ X) (.inr rfl) (.int .i64 (Ex.mk 1 twd.n eS eS []).op) (.int .i64 (Ex.mk 1 twd.n eS eS []).num) (.string (Ex.mk 1 twd.n eS eS []).name) (.string (Ex.mk 1 twd.n eS eS []).field) (.slice none (Ex.mk 1 twd.n eS eS []).list.length 0)
            refine bodyPost_ret (v := .agg (exA (Ex.mk 1 twd.n eS eS []) none 0)) (by simp [exA, results, Tryz.results146, go_sem, b5, hsz, Ex.op, Ex.num, Ex.name, Ex.field, Ex.list]) rfl ⟨none, 0, rfl, ?_, ?_, ?_⟩
            · exact RdRow.nil _ _ _
            · exact (HRDwd.out.keep (hkr _) (by omega) (by omega)).keepF ((Keep.refl _ _).alloc _)
            · exact (Keep.put5 (HKwd.out) (.inl (Nat.le_refl _)) _ _ _ _ _).alloc _
          | false =>
            have hpm := HPM.out
            clear HPM
            have hSx : ofS l st 3 = st := by unfold ofS; rw [hpwd]; rfl
            rw [hSx] at HRDwd
            rw [hpwd, if_neg (by decide)] at hpm
            have HPM := Lib.hid hpm
            clear hpm hpwd hSx htwd
            go_upto_region 18 with fail
            obtain ⟨Wd, hWWd⟩ : ∃ Wd, Wd = wd.alloc (.cells #[.int .i64 twd.kind, .string twd.text, .int .i64 twd.n, .bool twd.same, .int .i64 twd.pos.1, .int .i64 twd.pos.2.1, .int .i64 twd.pos.2.2] 50) := ⟨_, rfl⟩
            rw [← hWWd]
            have HBWd := Lib.hid (show Blk Wd wd.heap.size #[.int .i64 twd.kind, .string twd.text, .int .i64 twd.n, .bool twd.same, .int .i64 twd.pos.1, .int .i64 twd.pos.2.1, .int .i64 twd.pos.2.2] 50 by rw [hWWd]; exact Blk.new _ _ _)
            have HAWd := Lib.hid (show Keep (fun _ => False) wd Wd by rw [hWWd]; exact (Keep.refl _ _).alloc _)
            have HZWd := Lib.hid (show Wd.heap.size = wd.heap.size + 1 by rw [hWWd]; simp)
            clear hWWd
            have HRDd := Lib.hid (HRDwd.out.keepF HAWd.out)
            have HKd := Lib.hid (HKwd.out.trans (HAWd.out.mono (fun _ _ h => h.elim)))
            have HB0d := Lib.hid (HAWd.out.blk HB0wd.out (fun h => h))
            go_wp2_with fail
            refine (rof_any b g c l st 4 (by decide) Wd HRDd.out).mono ?_
            rintro en we ⟨rfl, hrdx, hkx⟩
            have HRDwe := Lib.hid hrdx
            have HKwe := Lib.hid (HKd.out.trans hkx)
            have HB0we := Lib.hid (hkx.blk HB0d.out (Ne.symm (Nat.ne_of_lt hbw)))
            clear hrdx hkx
            obtain ⟨twe, htwe⟩ : ∃ t, t = ofT l st 4 := ⟨_, rfl⟩
            rw [← htwe]
            unfold tokA
            cases hpwe : isOf l st 4 with
            | true =>
              have hpm := HPM.out
              rw [hpwe, if_pos rfl] at hpm
              have hT : twe = tk l st.at_ := by rw [htwe]; unfold ofT; rw [hpwe]; rfl
              have hSx : ofS l st 4 = st.up := by unfold ofS; rw [hpwe]; rfl
              rw [hSx] at HRDwe
              rw [← hT] at hpm
              obtain ⟨rfl, rfl⟩ : Ex.mk 3 twe.n eS eS [] = e ∧ st.up = st' := by injection hpm with h; injection h with h1 h2; exact ⟨h1, h2⟩
              clear hpm hT hSx htwe hpwe HPM
              have b5 := HB0we.out.all5
              have hsz := HB0we.out.lt
              go_wp2_with fail
              have hkr := fun (X : World) => Keep.put5 (P := (· = w.heap.size)) (b := w.heap.size) (Keep.refl _ X) (.inr rfl) (.int .i64 (Ex.mk 3 twe.n eS eS []).op) (.int .i64 (Ex.mk 3 twe.n eS eS []).num) (.string (Ex.mk 3 twe.n eS eS []).name) (.string (Ex.mk 3 twe.n eS eS []).field) (.slice none (Ex.mk 3 twe.n eS eS []).list.length 0)
              refine bodyPost_ret (v := .agg (exA (Ex.mk 3 twe.n eS eS []) none 0)) (by simp [exA, results, Tryz.results146, go_sem, b5, hsz, Ex.op, Ex.num, Ex.name, Ex.field, Ex.list]) rfl ⟨none, 0, rfl, ?_, ?_, ?_⟩
              · exact RdRow.nil _ _ _
              · exact (HRDwe.out.keep (hkr _) (by omega) (by omega)).keepF ((Keep.refl _ _).alloc _)
              · exact (Keep.put5 (HKwe.out) (.inl (Nat.le_refl _)) _ _ _ _ _).alloc _
            | false =>
              have hpm := HPM.out
              clear HPM
              have hSx : ofS l st 4 = st := by unfold ofS; rw [hpwe]; rfl
              rw [hSx] at HRDwe
              rw [hpwe, if_neg (by decide)] at hpm
              have HPM := Lib.hid hpm
              clear hpm hpwe hSx htwe
              go_upto_region 21 with fail
              obtain ⟨We, hWWe⟩ : ∃ We, We = we.alloc (.cells #[.int .i64 twe.kind, .string twe.text, .int .i64 twe.n, .bool twe.same, .int .i64 twe.pos.1, .int .i64 twe.pos.2.1, .int .i64 twe.pos.2.2] 50) := ⟨_, rfl⟩
              rw [← hWWe]
              have HBWe := Lib.hid (show Blk We we.heap.size #[.int .i64 twe.kind, .string twe.text, .int .i64 twe.n, .bool twe.same, .int .i64 twe.pos.1, .int .i64 twe.pos.2.1, .int .i64 twe.pos.2.2] 50 by rw [hWWe]; exact Blk.new _ _ _)
              have HAWe := Lib.hid (show Keep (fun _ => False) we We by rw [hWWe]; exact (Keep.refl _ _).alloc _)
              have HZWe := Lib.hid (show We.heap.size = we.heap.size + 1 by rw [hWWe]; simp)
              clear hWWe
              have HRDe := Lib.hid (HRDwe.out.keepF HAWe.out)
              have HKe := Lib.hid (HKwe.out.trans (HAWe.out.mono (fun _ _ h => h.elim)))
              have HB0e := Lib.hid (HAWe.out.blk HB0we.out (fun h => h))
              go_wp2_with fail
              refine (HN.out f (by omega) st We e st' HRDe.out HPM.out).mono ?_
              rintro en wf ⟨A1, cc1, rfl, hrow1, hrd1, hk1⟩
              have HROW1 := Lib.hid hrow1; have HRD1 := Lib.hid hrd1; have HK1 := Lib.hid hk1
              have HB1 := Lib.hid (hk1.blk HB0e.out (Ne.symm (Nat.ne_of_lt hbw)))
              clear hrow1 hrd1 hk1
              have b5 := HB1.out.all5
              have hsz := HB0e.out.lt
              unfold exA
              go_wp2_with fail
              have hkr := fun (X : World) => Keep.put5 (P := (· = w.heap.size)) (b := w.heap.size) (Keep.refl _ X) (.inr rfl) (.int .i64 (e).op) (.int .i64 (e).num) (.string (e).name) (.string (e).field) (.slice A1 (e).list.length cc1)
              refine bodyPost_ret (v := .agg (exA (e) A1 cc1)) (by simp [exA, results, Tryz.results146, go_sem, b5]) rfl ⟨A1, cc1, rfl, ?_, ?_, ?_⟩
              · exact (HROW1.out.keep (hkr _) (fun k h1 h2 => by have h2 : We.heap.size ≤ k := h2; omega)).base (Nat.le_of_lt hsz)
              · exact HRD1.out.keep (hkr _) (by omega) (by omega)
              · exact Keep.put5 (HKe.out.trans HK1.out) (.inl (Nat.le_refl _)) _ _ _ _ _
end Go.Proofs.YtgmmjhelcpgakaaGreatDoor
