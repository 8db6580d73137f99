/- Package exprpas: expr. -/
import Derived.Test.YtgmmjhelcpgakaaGreatDoorGX
import Derived.Deep.RegionLaw
import Derived.Deep.RegionHeld3
namespace Go.Proofs.YtgmmjhelcpgakaaGreatDoor
open Go.RowKit
set_option linter.unusedVariables false
set_option linter.unusedSimpArgs false

set_option maxRecDepth 100000 in
set_option maxHeartbeats 16000000 in
theorem expr_any (l : List TokL) (b g c : Nat) (f : Nat) (ih : ∀ f', f' < f → Does l b g c 88 .simple f') : Does l b g c 48 .expr f := by
  intro st w e st' hrd hpm
  have hu := Tryz.underlying25
  cases f with
  | zero => cases hpm
  | succ f =>
    rw [pm] at hpm
    obtain ⟨ek, sk, hp1, hp2⟩ := thn_some hpm
    have HF : Hid (∀ f', f' < f + 1 → Does l b g c 88 .simple f') := ih
    have HRD := Lib.hid hrd
    have HP1 := Lib.hid hp1
    have HP2 := Lib.hid hp2
    have hbw := hrd.blk.lt
    clear hpm ih hrd hp1 hp2
    go_enter Tryz.func48, Tryz.ntmps48
    go_wp2_with fail
    obtain ⟨W0, hWW0⟩ : ∃ W0, W0 = w.alloc (.cells #[.int .i64 0, .int .i64 0, .string ⟨#[]⟩, .string ⟨#[]⟩, .slice none 0 0] 25) := ⟨_, rfl⟩
    rw [← hWW0]
    have HBW0 := Lib.hid (show Blk W0 w.heap.size #[.int .i64 0, .int .i64 0, .string ⟨#[]⟩, .string ⟨#[]⟩, .slice none 0 0] 25 by rw [hWW0]; exact Blk.new _ _ _)
    have HAW0 := Lib.hid (show Keep (fun _ => False) w W0 by rw [hWW0]; exact (Keep.refl _ _).alloc _)
    have HZW0 := Lib.hid (show W0.heap.size = w.heap.size + 1 by rw [hWW0]; simp)
    clear hWW0
    refine (HF.out f (by omega) st W0 ek sk (HRD.out.keepF HAW0.out) HP1.out).mono ?_
    rintro en w1 ⟨A, cc, rfl, hrow1, hrd1, hk1⟩
    have HROW1 := Lib.hid hrow1; have HRD1 := Lib.hid hrd1; have HK1 := Lib.hid hk1
    clear hrow1 hrd1 hk1
    unfold exA
    go_upto_region 2 with fail
    obtain ⟨W1, hWW1⟩ : ∃ W1, W1 = w1.alloc (.cells #[.int .i64 ek.op, .int .i64 ek.num, .string ek.name, .string ek.field, .slice A ek.list.length cc] 25) := ⟨_, rfl⟩
    rw [← hWW1]
    have HBW1 := Lib.hid (show Blk W1 w1.heap.size #[.int .i64 ek.op, .int .i64 ek.num, .string ek.name, .string ek.field, .slice A ek.list.length cc] 25 by rw [hWW1]; exact Blk.new _ _ _)
    have HAW1 := Lib.hid (show Keep (fun _ => False) w1 W1 by rw [hWW1]; exact (Keep.refl _ _).alloc _)
    have HZW1 := Lib.hid (show W1.heap.size = w1.heap.size + 1 by rw [hWW1]; simp)
    clear hWW1
    have hbE : b < w1.heap.size := HRD1.out.blk.lt
    have hgE : g < w1.heap.size := HRD1.out.glt
    have hgw : g < w.heap.size := HRD.out.glt
    obtain ⟨bE, hbEq⟩ : ∃ bE, bE = w1.heap.size := ⟨_, rfl⟩
    have hRw : w.heap.size < bE := by rw [hbEq]; exact Nat.lt_of_lt_of_le HBW0.out.lt HK1.out.size
    rw [← hbEq] at HBW1 hbE hgE ⊢
    have HBE := Lib.hid hbEq; clear hbEq
    have HB0 := Lib.hid ((HK1.out.trans (HAW1.out.mono (Q := (· = b)) (fun _ _ h => h.elim))).blk HBW0.out (Ne.symm (Nat.ne_of_lt hbw)))
    have HROW2 := Lib.hid ((HROW1.out.mono (S' := fun k => w.heap.size < k ∧ k ≠ bE) fun k hk h => ⟨Nat.lt_of_lt_of_le HBW0.out.lt h, by rw [HBE.out]; exact Nat.ne_of_lt hk⟩).keepF HAW1.out)
    have HRD1x := Lib.hid (HRD1.out.keepF HAW1.out)
    have HKx := Lib.hid (((HAW0.out.mono (Q := (· = b)) (fun _ _ h => h.elim)).trans HK1.out).trans (HAW1.out.mono (fun _ _ h => h.elim)))
    have hbl := HRD1x.out.blk.lt
    go_wp2_with fail
    obtain ⟨W2, hWW2⟩ : ∃ W2, W2 = W1.alloc (.cells #[.string gEq, .string gNe, .string gLt, .string gLe, .string gGt, .string gGe] 9) := ⟨_, rfl⟩
    rw [← hWW2]
    have HBW2 := Lib.hid (show Blk W2 W1.heap.size #[.string gEq, .string gNe, .string gLt, .string gLe, .string gGt, .string gGe] 9 by rw [hWW2]; exact Blk.new _ _ _)
    have HAW2 := Lib.hid (show Keep (fun _ => False) W1 W2 by rw [hWW2]; exact (Keep.refl _ _).alloc _)
    have HZW2 := Lib.hid (show W2.heap.size = W1.heap.size + 1 by rw [hWW2]; simp)
    clear hWW2
    refine (take_any b g c l sk W1.heap.size 6 6 rels W2 (HRD1x.out.keepF HAW2.out) (textR_blk HBW2.out) rfl (by decide)).mono ?_
    rintro en w3 ⟨rfl, hrd3, hk3⟩
    have HRD3 := Lib.hid hrd3; have HK3 := Lib.hid ((HAW2.out.mono (Q := (· = b)) (fun _ _ h => h.elim)).trans hk3)
    have HBK3 := Lib.hid (HK3.out.blk HBW1.out (Ne.symm (Nat.ne_of_lt hbE)))
    have HROW3 := Lib.hid (HROW2.out.keep HK3.out (fun k h1 h2 => by omega))
    have HB03 := Lib.hid (HK3.out.blk HB0.out (Ne.symm (Nat.ne_of_lt hbw)))
    clear hrd3 hk3
    have a5 := HBK3.out.all5
    have b5 := HB03.out.all5
    have hb3 : bE < w3.heap.size := HBK3.out.lt
    have hp2 := HP2.out
    cases hp : isP l sk rels with
    | false =>
      rw [hp, if_neg (by decide)] at hp2
      obtain ⟨rfl, rfl⟩ : ek = e ∧ sk = st' := by injection hp2 with h; injection h with h1 h2; exact ⟨h1, h2⟩
      have hS : takeS l sk rels = sk := by unfold takeS; rw [hp]; rfl
      rw [hS] at HRD3
      clear hp hS hp2
      go_wp2_with fail
      refine bodyPost_ret (v := .agg (exA ek A cc)) (by simp [exA, results, Tryz.results48, go_sem, b5]) rfl ⟨A, cc, rfl, ?_, ?_, ?_⟩
      · exact ((HROW3.out.keep (P := (· = w.heap.size)) (Keep.put5 (P := (· = w.heap.size)) (b := w.heap.size) (Keep.refl _ _) (.inr rfl) _ _ _ _ _) (fun k h1 h2 => by omega))).mono (fun k _ h => Nat.le_of_lt h.1)
      · exact HRD3.out.keep (P := (· = w.heap.size)) (Keep.put5 (P := (· = w.heap.size)) (b := w.heap.size) (Keep.refl _ _) (.inr rfl) _ _ _ _ _) (by omega) (by omega)
      · exact Keep.put5 (HKx.out.trans HK3.out) (.inl (Nat.le_refl _)) _ _ _ _ _
    | true =>
      rw [hp, if_pos rfl] at hp2
      obtain ⟨e2, st2, hf2, hl2⟩ := thn_some hp2
      obtain ⟨rfl, rfl⟩ : exTwo (relOp (takeT l sk rels)) ek e2 = e ∧ st2 = st' := by injection hl2 with h; injection h with h1 h2; exact ⟨h1, h2⟩
      obtain ⟨s, hs⟩ : ∃ s, s = takeT l sk rels := ⟨_, rfl⟩
      obtain ⟨sk1, hsk1⟩ : ∃ x, x = takeS l sk rels := ⟨_, rfl⟩
      rw [← hs]
      rw [← hsk1] at hf2 HRD3
      have HF2 := Lib.hid hf2
      have HS := Lib.hid hs
      clear hp hp2 hf2 hl2 hs hsk1
      have hwb : w.heap.size ≤ w3.heap.size := by omega
      have hd3 : Keep (fun _ => False) w3 w3.drew := (Keep.refl _ w3).drew
      have HD3 := Lib.hid hd3
      clear hd3
      go_upto_region 4 with fail
      go_region_with (first
        | (go_at_call 91; refine (relation_any s _).mono ?_; rintro en w' ⟨rfl, rfl⟩)
        | (go_at_call 88; refine (HF.out f (by omega) _ _ e2 st2 (HRD3.out.keepF HD3.out) HF2.out).mono ?_; rintro en w5 ⟨A5, cc5, rfl, hrow5, hrd5, hk5⟩; have hk5' := (HD3.out.mono (Q := (· = b)) (fun _ _ h => h.elim)).trans hk5; have HBK5 := Lib.hid (hk5'.blk HBK3.out (Ne.symm (Nat.ne_of_lt hbE))); have HROW5 := Lib.hid (HROW3.out.keep hk5' (fun k h1 h2 => by omega)); have HR5 := Lib.hid hrow5; have HRD5 := Lib.hid hrd5; have HK5 := Lib.hid hk5'; have c5 := HBK5.out.all5; clear hrow5 hrd5 hk5 hk5'; unfold exA)
        | (go_at_call 90; refine (two_any (fun k => w.heap.size < k ∧ k ≠ bE) (relOp s) ek e2 A A5 cc cc5 _ (fun k hk => by have := HK5.out.size; omega) HROW5.out (HR5.out.mono (fun k _ h => by have h : w3.heap.size ≤ k := h; omega))).mono ?_; rintro en w6 ⟨A6, cc6, rfl, hrow6, hk6⟩; have HBK6 := Lib.hid (hk6.blk HBK5.out (fun h => h)); have HROW6 := Lib.hid hrow6; have HK6 := Lib.hid hk6; clear hrow6 hk6; have d5 := HBK6.out.all5; have e5 := ((HK5.out.trans (HK6.out.mono (fun _ _ h => h.elim))).blk HB03.out (Ne.symm (Nat.ne_of_lt hbw))).all5; unfold exA)
        )
      all_goals
        go_wp2_with fail
        rw [← HS.out]
        have hk5 : Keep (· = bE) w6 _ := Keep.put5 (P := (· = bE)) (b := bE) (Keep.refl _ _) (.inr rfl) (.int .i64 (exTwo (relOp s) ek e2).op) (.int .i64 (exTwo (relOp s) ek e2).num) (.string (exTwo (relOp s) ek e2).name) (.string (exTwo (relOp s) ek e2).field) (.slice A6 (exTwo (relOp s) ek e2).list.length cc6)
        have hkr := fun (X : World) => Keep.put5 (P := (· = w.heap.size)) (b := w.heap.size) (Keep.refl _ X) (.inr rfl) (.int .i64 (exTwo (relOp s) ek e2).op) (.int .i64 (exTwo (relOp s) ek e2).num) (.string (exTwo (relOp s) ek e2).name) (.string (exTwo (relOp s) ek e2).field) (.slice A6 (exTwo (relOp s) ek e2).list.length cc6)
        have hne : w.heap.size ≠ bE := Nat.ne_of_lt hRw
        refine bodyPost_ret (v := .agg (exA (exTwo (relOp s) ek e2) A6 cc6)) (by simp [exA, results, Tryz.results48, go_sem, e5, hne, Ne.symm hne]) rfl ⟨A6, cc6, rfl, ?_, ?_, ?_⟩
        · exact (((HROW6.out.keep hk5 (fun k h1 h2 => by omega)).keep (hkr _) (fun k h1 h2 => by omega))).mono (fun k _ h => Nat.le_of_lt h.1)
        · exact (((HRD5.out.keepF HK6.out).keep hk5 (by omega) (by omega)).keep (hkr _) (by omega) (by omega))
        · exact Keep.put5 ((((((HKx.out.trans HK3.out).trans HK5.out).trans (HK6.out.mono (fun _ _ h => h.elim))).mono (Q := fun k => k = b ∨ k = bE) (fun _ _ h => .inl h)).trans (hk5.mono (fun _ _ h => .inr h))).mono (fun k hk h => by omega)) (.inl (Nat.le_refl _)) _ _ _ _ _
end Go.Proofs.YtgmmjhelcpgakaaGreatDoor
