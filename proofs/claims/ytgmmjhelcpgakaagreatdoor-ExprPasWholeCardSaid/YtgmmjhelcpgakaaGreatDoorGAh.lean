/- Package exprpas: named. -/
import Derived.Test.YtgmmjhelcpgakaaGreatDoorGX
import Derived.Deep.RegionLaw
import Derived.Deep.RegionHeld3
namespace Go.Proofs.YtgmmjhelcpgakaaGreatDoor
open Go.RowKit
set_option linter.unusedVariables false
set_option linter.unusedSimpArgs false

set_option maxRecDepth 100000 in
set_option maxHeartbeats 16000000 in
theorem named_any (l : List TokL) (b g c : Nat) (hdol : NoDol l) (f : Nat) (ihe : ∀ f', f' < f → Does l b g c 48 .expr f') (iho : ∀ f', f' < f → DoesO l b g c f') : Does l b g c 180 .named f := by
  intro st w e st' hrd hpm
  have hu := Tryz.underlying25
  have hu26 := Tryz.underlying28
  have hu38 := Tryz.underlying50
  cases f with
  | zero => cases hpm
  | succ f =>
    rw [pm] at hpm
    have HE := Lib.hid ihe; have HO := Lib.hid iho
    have HRD := Lib.hid hrd
    have HD := Lib.hid hdol
    have hbw := hrd.blk.lt
    have hgw := hrd.glt
    have HPM := Lib.hid hpm
    clear hpm ihe iho hrd hdol
    go_enter Tryz.func180, Tryz.ntmps180
    go_upto_region 1 with fail
    obtain ⟨W0, hWW0⟩ : ∃ W0, W0 = w.alloc (.cells #[.int .i64 0, .int .i64 0, .string ⟨#[]⟩, .string ⟨#[]⟩, .slice none 0 0] 25) := ⟨_, rfl⟩
    rw [← hWW0]
    have HBW0 := Lib.hid (show Blk W0 w.heap.size #[.int .i64 0, .int .i64 0, .string ⟨#[]⟩, .string ⟨#[]⟩, .slice none 0 0] 25 by rw [hWW0]; exact Blk.new _ _ _)
    have HAW0 := Lib.hid (show Keep (fun _ => False) w W0 by rw [hWW0]; exact (Keep.refl _ _).alloc _)
    have HZW0 := Lib.hid (show W0.heap.size = w.heap.size + 1 by rw [hWW0]; simp)
    clear hWW0
    have HRD0 := Lib.hid (HRD.out.keepF HAW0.out)
    have HK0 := Lib.hid (HAW0.out.mono (Q := (· = b)) (fun _ _ h => h.elim))
    have hb0 : b < W0.heap.size := HRD0.out.blk.lt
    go_wp2_with fail
    refine (rname_any b g c l st W0 HRD0.out HD.out).mono ?_
    rintro en wn ⟨rfl, hrdx, hkx⟩
    have HRDn := Lib.hid hrdx
    have HKn := Lib.hid (HK0.out.trans hkx)
    have HBn := Lib.hid (hkx.blk HBW0.out (Ne.symm (Nat.ne_of_lt hbw)))
    clear hrdx hkx
    obtain ⟨nm, hnm⟩ : ∃ x, x = nameT l st := ⟨_, rfl⟩
    obtain ⟨sn, hsn⟩ : ∃ x, x = nameS l st := ⟨_, rfl⟩
    have hpm := HPM.out
    rw [← hnm, ← hsn] at hpm
    rw [← hsn] at HRDn
    rw [← hnm]
    have HPM := Lib.hid hpm
    clear hpm hnm hsn
    have hbn : b < wn.heap.size := HRDn.out.blk.lt
    go_wp2_with fail
    obtain ⟨Wa, hWWa⟩ : ∃ Wa, Wa = wn.alloc (.cells #[.string gOpen, .string gOpenB, .string gDot] 9) := ⟨_, rfl⟩
    rw [← hWWa]
    have HBWa := Lib.hid (show Blk Wa wn.heap.size #[.string gOpen, .string gOpenB, .string gDot] 9 by rw [hWWa]; exact Blk.new _ _ _)
    have HAWa := Lib.hid (show Keep (fun _ => False) wn Wa by rw [hWWa]; exact (Keep.refl _ _).alloc _)
    have HZWa := Lib.hid (show Wa.heap.size = wn.heap.size + 1 by rw [hWWa]; simp)
    clear hWWa
    refine (take_any b g c l sn wn.heap.size 3 3 [gOpen, gOpenB, gDot] Wa (HRDn.out.keepF HAWa.out) (textR_blk HBWa.out) rfl (by decide)).mono ?_
    rintro en wa ⟨rfl, hrdx, hkx⟩
    have HRDwa := Lib.hid hrdx
    have HKwa := Lib.hid (HKn.out.trans ((HAWa.out.mono (Q := (· = b)) (fun _ _ h => h.elim)).trans hkx))
    have HB0wa := Lib.hid (hkx.blk (HAWa.out.blk HBn.out (fun h => h)) (Ne.symm (Nat.ne_of_lt hbw)))
    clear hrdx hkx
    cases hpwa : isP l sn [gOpen, gOpenB, gDot] with
    | false =>
      have hT : takeT l sn [gOpen, gOpenB, gDot] = eS := by unfold takeT; rw [hpwa]; rfl
      have hS : takeS l sn [gOpen, gOpenB, gDot] = sn := by unfold takeS; rw [hpwa]; rfl
      rw [hS] at HRDwa
      rw [hT]
      have hpm := HPM.out
      rw [hpwa, if_neg (by decide)] at hpm
      obtain ⟨rfl, rfl⟩ : exVar nm = e ∧ sn = st' := by injection hpm with h; injection h with h1 h2; exact ⟨h1, h2⟩
      clear hpm hT hS hpwa HPM
      have b5 := HB0wa.out.all5
      go_wp2_with fail
      have hkr := fun (X : World) => Keep.put5 (P := (· = w.heap.size)) (b := w.heap.size) (Keep.refl _ X) (.inr rfl) (.int .i64 (exVar nm).op) (.int .i64 (exVar nm).num) (.string (exVar nm).name) (.string (exVar nm).field) (.slice none (exVar nm).list.length 0)
      refine bodyPost_ret (v := .agg (exA (exVar nm) none 0)) (by simp [exA, results, Tryz.results180, go_sem, b5, exVar, Ex.op, Ex.num, Ex.name, Ex.field, Ex.list]) rfl ⟨none, 0, rfl, ?_, ?_, ?_⟩
      · exact RdRow.nil _ _ _
      · exact HRDwa.out.keep (hkr _) (by omega) (by omega)
      · exact Keep.put5 (HKwa.out) (.inl (Nat.le_refl _)) _ _ _ _ _
    | true =>
      have hpm := HPM.out
      rw [hpwa, if_pos rfl] at hpm
      have hmem := isP_text hpwa
      obtain ⟨s, hs⟩ : ∃ s, s = takeT l sn [gOpen, gOpenB, gDot] := ⟨_, rfl⟩
      obtain ⟨sk1, hsk1⟩ : ∃ x, x = takeS l sn [gOpen, gOpenB, gDot] := ⟨_, rfl⟩
      rw [← hs] at hpm hmem ⊢
      rw [← hsk1] at hpm HRDwa
      have HPM2 := Lib.hid hpm
      clear hpm hs hsk1 HPM hpwa
      have hsz := HB0wa.out.lt
      simp only [List.mem_cons, List.not_mem_nil, or_false] at hmem
      rcases hmem with rfl | rfl | rfl
      · have hpm := HPM2.out
        rw [if_pos rfl] at hpm
        obtain ⟨e1, st1, hf1, hl1⟩ := thn_some hpm
        obtain ⟨rfl, rfl⟩ : Ex.mk 7 0 nm eS e1.list = e ∧ st1 = st' := by injection hl1 with h; injection h with h1 h2; exact ⟨h1, h2⟩
        have HF1 := Lib.hid hf1
        clear hpm hf1 hl1 HPM2
        go_wp2_with fail
        refine (HO.out f (by omega) _ wa e1 st1 HRDwa.out HF1.out).mono ?_
        rintro en w1 ⟨A1, cc1, rfl, hrow1, hrd1, hk1⟩
        have HROW1 := Lib.hid hrow1; have HRD1 := Lib.hid hrd1; have HK1 := Lib.hid hk1
        have HB1 := Lib.hid (hk1.blk HB0wa.out (Ne.symm (Nat.ne_of_lt hbw)))
        clear hrow1 hrd1 hk1
        have b5 := HB1.out.all5
        go_wp2_with fail
        have hkr := fun (X : World) => Keep.put5 (P := (· = w.heap.size)) (b := w.heap.size) (Keep.refl _ X) (.inr rfl) (.int .i64 (Ex.mk 7 0 nm eS e1.list).op) (.int .i64 (Ex.mk 7 0 nm eS e1.list).num) (.string (Ex.mk 7 0 nm eS e1.list).name) (.string (Ex.mk 7 0 nm eS e1.list).field) (.slice A1 (Ex.mk 7 0 nm eS e1.list).list.length cc1)
        refine bodyPost_ret (v := .agg (exA (Ex.mk 7 0 nm eS e1.list) A1 cc1)) (by simp [exA, results, Tryz.results180, go_sem, b5, Ex.op, Ex.num, Ex.name, Ex.field, Ex.list]) rfl ⟨A1, cc1, rfl, ?_, ?_, ?_⟩
        · exact (HROW1.out.keep (hkr _) (fun k h1 h2 => by have h2 : wa.heap.size ≤ k := h2; omega)).base (Nat.le_of_lt hsz)
        · exact HRD1.out.keep (hkr _) (by omega) (by omega)
        · exact Keep.put5 (HKwa.out.trans HK1.out) (.inl (Nat.le_refl _)) _ _ _ _ _
      · have hpm := HPM2.out
        rw [if_neg (by decide), if_pos rfl] at hpm
        obtain ⟨e1, st1, hf1, hl1⟩ := thn_some hpm
        obtain ⟨rfl, rfl⟩ : Ex.mk 5 0 nm eS [e1] = e ∧ mustS l st1 gCloseB = st' := by injection hl1 with h; injection h with h1 h2; exact ⟨h1, h2⟩
        have HF1 := Lib.hid hf1
        clear hpm hf1 hl1 HPM2
        go_wp2_with fail
        refine (HE.out f (by omega) _ wa e1 st1 HRDwa.out HF1.out).mono ?_
        rintro en w1 ⟨A1, cc1, rfl, hrow1, hrd1, hk1⟩
        have HROW1 := Lib.hid hrow1; have HRD1 := Lib.hid hrd1; have HK1 := Lib.hid hk1
        have HB1 := Lib.hid (hk1.blk HB0wa.out (Ne.symm (Nat.ne_of_lt hbw)))
        clear hrow1 hrd1 hk1
        unfold exA
        go_upto_region 9 with fail
        obtain ⟨W2, hWW2⟩ : ∃ W2, W2 = w1.alloc (.cells #[.int .i64 e1.op, .int .i64 e1.num, .string e1.name, .string e1.field, .slice A1 e1.list.length cc1] 25) := ⟨_, rfl⟩
        rw [← hWW2]
        have HBW2 := Lib.hid (show Blk W2 w1.heap.size #[.int .i64 e1.op, .int .i64 e1.num, .string e1.name, .string e1.field, .slice A1 e1.list.length cc1] 25 by rw [hWW2]; exact Blk.new _ _ _)
        have HAW2 := Lib.hid (show Keep (fun _ => False) w1 W2 by rw [hWW2]; exact (Keep.refl _ _).alloc _)
        have HZW2 := Lib.hid (show W2.heap.size = w1.heap.size + 1 by rw [hWW2]; simp)
        clear hWW2
        rw [← HZW2.out]
        obtain ⟨W3, hWW3⟩ : ∃ W3, W3 = W2.alloc (.cells #[.int .i64 5, .int .i64 0, .string nm, .string ⟨#[]⟩, .slice (some ⟨w1.heap.size, 0, none⟩) 1 1] 25) := ⟨_, rfl⟩
        rw [← hWW3]
        have HBW3 := Lib.hid (show Blk W3 W2.heap.size #[.int .i64 5, .int .i64 0, .string nm, .string ⟨#[]⟩, .slice (some ⟨w1.heap.size, 0, none⟩) 1 1] 25 by rw [hWW3]; exact Blk.new _ _ _)
        have HAW3 := Lib.hid (show Keep (fun _ => False) W2 W3 by rw [hWW3]; exact (Keep.refl _ _).alloc _)
        have HZW3 := Lib.hid (show W3.heap.size = W2.heap.size + 1 by rw [hWW3]; simp)
        clear hWW3
        have HRD3 := Lib.hid ((HRD1.out.keepF HAW2.out).keepF HAW3.out)
        have hb2 : b < W3.heap.size := HRD3.out.blk.lt
        go_wp2_with fail
        obtain ⟨W4, hWW4⟩ : ∃ W4, W4 = W3.alloc (.cells #[.string gCloseB] 9) := ⟨_, rfl⟩
        rw [← hWW4]
        have HBW4 := Lib.hid (show Blk W4 W3.heap.size #[.string gCloseB] 9 by rw [hWW4]; exact Blk.new _ _ _)
        have HAW4 := Lib.hid (show Keep (fun _ => False) W3 W4 by rw [hWW4]; exact (Keep.refl _ _).alloc _)
        have HZW4 := Lib.hid (show W4.heap.size = W3.heap.size + 1 by rw [hWW4]; simp)
        clear hWW4
        refine (must_any b g c l st1 W3.heap.size 1 1 [gCloseB] W4 (HRD3.out.keepF HAW4.out) (textR_blk HBW4.out) (by omega) rfl (by decide)).mono ?_
        rintro en w5 ⟨rfl, hrd5, hk5⟩
        rw [mustsS_one] at hrd5
        have HRD5 := Lib.hid hrd5
        have hk45 := (HAW4.out.mono (Q := (· = b)) (fun _ _ h => h.elim)).trans hk5
        have hk35 := (HAW3.out.mono (Q := (· = b)) (fun _ _ h => h.elim)).trans hk45
        have hbw1 : b < w1.heap.size := HRD1.out.blk.lt
        have HK5 := Lib.hid ((HAW2.out.mono (Q := (· = b)) (fun _ _ h => h.elim)).trans hk35)
        have HBE := Lib.hid (hk45.blk HBW3.out (by rw [HZW2.out]; omega))
        have HBS := Lib.hid (hk35.blk HBW2.out (by omega))
        have HB5 := Lib.hid (HK5.out.blk HB1.out (Ne.symm (Nat.ne_of_lt hbw)))
        clear hrd5 hk5 hk45 hk35
        have a5 := HBE.out.all5
        have b5 := HB5.out.all5
        have hs1 := HB1.out.lt
        go_wp2_with fail
        have hkr := fun (X : World) => Keep.put5 (P := (· = w.heap.size)) (b := w.heap.size) (Keep.refl _ X) (.inr rfl) (.int .i64 (Ex.mk 5 0 nm eS [e1]).op) (.int .i64 (Ex.mk 5 0 nm eS [e1]).num) (.string (Ex.mk 5 0 nm eS [e1]).name) (.string (Ex.mk 5 0 nm eS [e1]).field) (.slice (some ⟨w1.heap.size, 0, none⟩) (Ex.mk 5 0 nm eS [e1]).list.length 1)
        refine bodyPost_ret (v := .agg (exA (Ex.mk 5 0 nm eS [e1]) (some ⟨w1.heap.size, 0, none⟩) 1)) (by simp [exA, results, Tryz.results180, go_sem, b5, Ex.op, Ex.num, Ex.name, Ex.field, Ex.list]) rfl ⟨(some ⟨w1.heap.size, 0, none⟩), 1, rfl, ?_, ?_, ?_⟩
        · exact RdRow.one (t := 25) (e := e1) (A := A1) (c := cc1) (Nat.le_of_lt hs1) (((HROW1.out.keep HK5.out (fun k h1 h2 => by have h2 : wa.heap.size ≤ k := h2; omega)).keep (hkr _) (fun k h1 h2 => by have h2 : wa.heap.size ≤ k := h2; omega)).base (Nat.le_of_lt hsz)) (Blk.put5 HBS.out (by omega) _ _ _ _ _)
        · exact HRD5.out.keep (hkr _) (by omega) (by omega)
        · exact Keep.put5 ((HKwa.out.trans HK1.out).trans HK5.out) (.inl (Nat.le_refl _)) _ _ _ _ _
      · have hpm := HPM2.out
        rw [if_neg (by decide), if_neg (by decide)] at hpm
        obtain ⟨n2, hn2⟩ : ∃ x, x = nameT l sk1 := ⟨_, rfl⟩
        rw [← hn2] at hpm
        obtain ⟨rfl, rfl⟩ : Ex.mk 6 0 nm n2 [] = e ∧ nameS l sk1 = st' := by injection hpm with h; injection h with h1 h2; exact ⟨h1, h2⟩
        have HN2 := Lib.hid hn2
        clear hpm hn2 HPM2
        go_wp2_with fail
        refine (rname_any b g c l sk1 wa HRDwa.out HD.out).mono ?_
        rintro en w1 ⟨rfl, hrd1, hk1⟩
        rw [← HN2.out]
        have HRD1 := Lib.hid hrd1; have HK1 := Lib.hid hk1
        have HB1 := Lib.hid (hk1.blk HB0wa.out (Ne.symm (Nat.ne_of_lt hbw)))
        clear hrd1 hk1
        have b5 := HB1.out.all5
        go_wp2_with fail
        have hkr := fun (X : World) => Keep.put5 (P := (· = w.heap.size)) (b := w.heap.size) (Keep.refl _ X) (.inr rfl) (.int .i64 (Ex.mk 6 0 nm n2 []).op) (.int .i64 (Ex.mk 6 0 nm n2 []).num) (.string (Ex.mk 6 0 nm n2 []).name) (.string (Ex.mk 6 0 nm n2 []).field) (.slice none (Ex.mk 6 0 nm n2 []).list.length 0)
        refine bodyPost_ret (v := .agg (exA (Ex.mk 6 0 nm n2 []) none 0)) (by simp [exA, results, Tryz.results180, go_sem, b5, Ex.op, Ex.num, Ex.name, Ex.field, Ex.list]) rfl ⟨none, 0, rfl, ?_, ?_, ?_⟩
        · exact RdRow.nil _ _ _
        · exact HRD1.out.keep (hkr _) (by omega) (by omega)
        · exact Keep.put5 (HKwa.out.trans HK1.out) (.inl (Nat.le_refl _)) _ _ _ _ _
end Go.Proofs.YtgmmjhelcpgakaaGreatDoor
