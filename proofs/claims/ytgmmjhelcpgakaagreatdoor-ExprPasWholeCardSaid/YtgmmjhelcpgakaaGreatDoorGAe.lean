/- Package exprpas: simple. -/
import Derived.Test.YtgmmjhelcpgakaaGreatDoorGX
import Derived.Deep.RegionLaw
import Derived.Deep.RegionHeld3
namespace Go.Proofs.YtgmmjhelcpgakaaGreatDoor
open Go.RowKit
set_option linter.unusedVariables false
set_option linter.unusedSimpArgs false

set_option maxRecDepth 100000 in
set_option maxHeartbeats 16000000 in
theorem simple_any (l : List TokL) (b g c : Nat) (f : Nat) (ih : ∀ f', f' < f → Does l b g c 124 .term f') : Does l b g c 88 .simple f := by
  intro st w e st' hrd hpm
  have hu := Tryz.underlying25
  cases f with
  | zero => cases hpm
  | succ f =>
    rw [pm] at hpm
    obtain ⟨e0, st1, hp1, hp2⟩ := thn_some hpm
    have HF : Hid (∀ f', f' < f + 1 → Does l b g c 124 .term f') := ih
    have HRD := Lib.hid hrd
    have HP1 := Lib.hid hp1
    have HP2 := Lib.hid hp2
    have hbw := hrd.blk.lt
    clear hpm ih hrd hp1 hp2
    go_enter Tryz.func88, Tryz.ntmps88
    go_wp2_with fail
    obtain ⟨W0, hWW0⟩ : ∃ W0, W0 = w.alloc (.cells #[.int .i64 0, .int .i64 0, .string ⟨#[]⟩, .string ⟨#[]⟩, .slice none 0 0] 25) := ⟨_, rfl⟩
    rw [← hWW0]
    have HBW0 := Lib.hid (show Blk W0 w.heap.size #[.int .i64 0, .int .i64 0, .string ⟨#[]⟩, .string ⟨#[]⟩, .slice none 0 0] 25 by rw [hWW0]; exact Blk.new _ _ _)
    have HAW0 := Lib.hid (show Keep (fun _ => False) w W0 by rw [hWW0]; exact (Keep.refl _ _).alloc _)
    have HZW0 := Lib.hid (show W0.heap.size = w.heap.size + 1 by rw [hWW0]; simp)
    clear hWW0
    obtain ⟨Wt, hWWt⟩ : ∃ Wt, Wt = W0.alloc (.cells #[.string gMinus] 9) := ⟨_, rfl⟩
    rw [← hWWt]
    have HBWt := Lib.hid (show Blk Wt W0.heap.size #[.string gMinus] 9 by rw [hWWt]; exact Blk.new _ _ _)
    have HAWt := Lib.hid (show Keep (fun _ => False) W0 Wt by rw [hWWt]; exact (Keep.refl _ _).alloc _)
    have HZWt := Lib.hid (show Wt.heap.size = W0.heap.size + 1 by rw [hWWt]; simp)
    clear hWWt
    refine (take_any b g c l st (w.heap.size + 1) 1 1 [gMinus] Wt ((HRD.out.keepF HAW0.out).keepF HAWt.out) (by rw [← HZW0.out]; exact textR_blk HBWt.out) rfl (by decide)).mono ?_
    rintro en wa ⟨rfl, hrda, hka⟩
    have HRDa := Lib.hid hrda
    have HKa := Lib.hid ((((HAW0.out.trans HAWt.out).mono (Q := (· = b)) (fun _ _ h => h.elim))).trans hka)
    have HBa := Lib.hid (hka.blk (HAWt.out.blk HBW0.out (fun h => h)) (Ne.symm (Nat.ne_of_lt hbw)))
    clear hrda hka
    go_wp2_with fail
    refine (HF.out f (by omega) _ wa e0 st1 HRDa.out HP1.out).mono ?_
    rintro en w1 ⟨A1, cc1, rfl, hrow1, hrd1, hk1⟩
    have HROW1 := Lib.hid hrow1; have HRD1 := Lib.hid hrd1; have HK1 := Lib.hid hk1
    clear hrow1 hrd1 hk1
    unfold exA
    go_upto_if 21 with fail
    obtain ⟨Wb, hWWb⟩ : ∃ Wb, Wb = w1.alloc (.cells #[.int .i64 e0.op, .int .i64 e0.num, .string e0.name, .string e0.field, .slice A1 e0.list.length cc1] 25) := ⟨_, rfl⟩
    rw [← hWWb]
    have HBWb := Lib.hid (show Blk Wb w1.heap.size #[.int .i64 e0.op, .int .i64 e0.num, .string e0.name, .string e0.field, .slice A1 e0.list.length cc1] 25 by rw [hWWb]; exact Blk.new _ _ _)
    have HAWb := Lib.hid (show Keep (fun _ => False) w1 Wb by rw [hWWb]; exact (Keep.refl _ _).alloc _)
    have HZWb := Lib.hid (show Wb.heap.size = w1.heap.size + 1 by rw [hWWb]; simp)
    clear hWWb
    have hbE : b < w1.heap.size := HRD1.out.blk.lt
    have hgE : g < w1.heap.size := HRD1.out.glt
    have hgw : g < w.heap.size := HRD.out.glt
    obtain ⟨bE, hbEq⟩ : ∃ bE, bE = w1.heap.size := ⟨_, rfl⟩
    have hRw : w.heap.size < bE := by rw [hbEq]; exact Nat.lt_of_lt_of_le HBa.out.lt HK1.out.size
    rw [← hbEq] at HBWb hbE hgE ⊢
    have HBE := Lib.hid hbEq; clear hbEq
    have HB0 := Lib.hid (HAWb.out.blk (HK1.out.blk HBa.out (Ne.symm (Nat.ne_of_lt hbw))) (fun h => h))
    have HROW2 := Lib.hid ((HROW1.out.mono (S' := fun k => w.heap.size < k ∧ k ≠ bE) fun k hk h => ⟨Nat.lt_of_lt_of_le HBa.out.lt h, by rw [HBE.out]; exact Nat.ne_of_lt hk⟩).keepF HAWb.out)
    have HRDb := Lib.hid (HRD1.out.keepF HAWb.out)
    have HKb := Lib.hid ((HKa.out.trans HK1.out).trans (HAWb.out.mono (fun _ _ h => h.elim)))
    obtain ⟨e1, he1⟩ : ∃ e1, e1 = (if isP l st [gMinus] = true then exOne 8 e0 else e0) := ⟨_, rfl⟩
    have hp2 := HP2.out
    rw [← he1] at hp2
    have HP2 := Lib.hid hp2
    have HE1 := Lib.hid he1
    clear hp2 he1
    go_cut [5] from 3 to 25 (fun v5 wx => v5 = .pointer (some ⟨bE, 0, none⟩) ∧ ∃ A1 cc1, Blk wx bE (exA e1 A1 cc1) 25 ∧ Blk wx w.heap.size #[.int .i64 0, .int .i64 0, .string ⟨#[]⟩, .string ⟨#[]⟩, .slice none 0 0] 25 ∧ RdRow (fun k => w.heap.size < k ∧ k ≠ bE) wx e1.list A1 ∧ Rdr wx b g c l st1 ∧ Keep (· = b) w wx)
    case first =>
      cases hm : isP l st [gMinus] with
      | false =>
        have he := HE1.out
        rw [hm, if_neg (by decide)] at he
        clear HE1 hm
        subst he
        go_wp2_with fail
        go_meet
        exact ⟨rfl, A1, cc1, HBWb.out, HB0.out, HROW2.out, HRDb.out, HKb.out⟩
      | true =>
        have he := HE1.out
        rw [hm, if_pos rfl] at he
        have HE := Lib.hid he
        have a5 := HBWb.out.all5
        have hbl := HBWb.out.lt
        clear HE1 hm he
        go_wp2_with fail
        go_meet
        have hk5 : Keep (· = bE) Wb _ := Keep.put5 (P := (· = bE)) (b := bE) (Keep.refl _ _) (.inr rfl) (.int .i64 8) (.int .i64 0) (.string ⟨#[]⟩) (.string ⟨#[]⟩) (.slice (some ⟨Wb.heap.size, 0, none⟩) 1 1)
        have hsz := Nat.lt_of_lt_of_le hRw (Nat.le_of_lt hbl)
        rw [HE.out]
        refine ⟨rfl, some ⟨Wb.heap.size, 0, none⟩, 1, (HBWb.out.set5 _ _ _ _ _).alloc _, (Blk.put5 HB0.out (by omega) _ _ _ _ _).alloc _, ?_, ?_, ?_⟩
        · refine RdRow.one (t := 25) (e := e0) (A := A1) (c := cc1) ⟨hsz, Ne.symm (Nat.ne_of_lt hbl)⟩ ((HROW2.out.keep hk5 (fun k h1 h2 => by omega)).keepF ((Keep.refl _ _).alloc _)) (Blk.new' (by simp) _ _)
        · exact (HRDb.out.keep hk5 (by omega) (by omega)).keepF ((Keep.refl _ _).alloc _)
        · exact ((HKb.out.mono (Q := fun k => k = b ∨ k = bE) (fun _ _ h => .inl h)).trans (hk5.mono (fun _ _ h => .inr h))).mono (fun k hk h => by omega) |>.alloc _
    case rest =>
      obtain ⟨rfl, A1, cc1, hbe, hb0, hrow, hrd1, hkx⟩ := hcut
      have HBW1 := Lib.hid hbe; have HB0 := Lib.hid hb0; have HROW2 := Lib.hid hrow; have HRD1x := Lib.hid hrd1; have HKx := Lib.hid hkx
      clear hbe hb0 hrow hrd1 hkx
      go_wp2_with fail
      go_loopg [] f (fun n wr => ∃ (x : Ex) (sk : RS) (A : Option Addr) (cc : Nat), Blk wr bE (exA x A cc) 25 ∧ Blk wr w.heap.size #[.int .i64 0, .int .i64 0, .string ⟨#[]⟩, .string ⟨#[]⟩, .slice none 0 0] 25 ∧ RdRow (fun k => w.heap.size < k ∧ k ≠ bE) wr x.list A ∧ Rdr wr b g c l sk ∧ Keep (fun k => k = b ∨ k = bE) w wr ∧ n < f + 1 ∧ Hid (pm l n (.simpleL x) sk = some (e, st')))
      case atStart => exact ⟨e1, st1, A1, cc1, HBW1.out, HB0.out, HROW2.out, HRD1x.out, HKx.out.mono (fun _ _ h => .inl h), by omega, HP2.out⟩
      case round =>
        obtain ⟨ek, sk, A, cc, hbk, hb0, hrow, hrd, hkp, hn, HP⟩ := hrel
        have HBK := Lib.hid hbk; have HROW := Lib.hid hrow; have HRDk := Lib.hid hrd; have HKP := Lib.hid hkp
        clear hbk hrow hrd hkp
        have HB0k := Lib.hid hb0
        clear hb0
        have hbl := HRDk.out.blk.lt
        go_wp2_with fail
        obtain ⟨W2, hWW2⟩ : ∃ W2, W2 = wr.alloc (.cells #[.string gPlus, .string gMinus, .string wOr] 9) := ⟨_, rfl⟩
        rw [← hWW2]
        have HBW2 := Lib.hid (show Blk W2 wr.heap.size #[.string gPlus, .string gMinus, .string wOr] 9 by rw [hWW2]; exact Blk.new _ _ _)
        have HAW2 := Lib.hid (show Keep (fun _ => False) wr W2 by rw [hWW2]; exact (Keep.refl _ _).alloc _)
        have HZW2 := Lib.hid (show W2.heap.size = wr.heap.size + 1 by rw [hWW2]; simp)
        clear hWW2
        refine (take_any b g c l sk wr.heap.size 3 3 adds W2 (HRDk.out.keepF HAW2.out) (textR_blk HBW2.out) rfl (by decide)).mono ?_
        rintro en w3 ⟨rfl, hrd3, hk3⟩
        have HRD3 := Lib.hid hrd3; have HK3 := Lib.hid ((HAW2.out.mono (Q := (· = b)) (fun _ _ h => h.elim)).trans hk3)
        clear hrd3 hk3
        cases hp : isP l sk adds with
        | false =>
          have hT : takeT l sk adds = eS := by unfold takeT; rw [hp]; rfl
          have hS : takeS l sk adds = sk := by unfold takeS; rw [hp]; rfl
          rw [hS] at HRD3
          rw [hT]
          have HPk := HP.out
          cases gk with
          | zero => cases HPk
          | succ n =>
          rw [pm, hp, if_neg (by decide)] at HPk
          obtain ⟨rfl, rfl⟩ : ek = e ∧ sk = st' := by injection HPk with h; injection h with h1 h2; exact ⟨h1, h2⟩
          have a5 := (HK3.out.blk HBK.out (Ne.symm (Nat.ne_of_lt hbE))).all5
          have b5 := (HK3.out.blk (HB0k.out) (Ne.symm (Nat.ne_of_lt hbw))).all5
          clear hp hT hS HPk
          go_wp2_with fail
          refine bodyPost_ret (v := .agg (exA ek A cc)) (by simp [exA, results, Tryz.results88, go_sem, b5]) rfl ⟨A, cc, rfl, ?_, ?_, ?_⟩
          · exact (((HROW.out.keep HK3.out (fun k h1 h2 => by omega)).keep (P := (· = w.heap.size)) (Keep.put5 (P := (· = w.heap.size)) (b := w.heap.size) (Keep.refl _ _) (.inr rfl) _ _ _ _ _) (fun k h1 h2 => by omega))).mono (fun k _ h => Nat.le_of_lt h.1)
          · exact HRD3.out.keep (P := (· = w.heap.size)) (Keep.put5 (P := (· = w.heap.size)) (b := w.heap.size) (Keep.refl _ _) (.inr rfl) _ _ _ _ _) (by omega) (by omega)
          · exact Keep.put5 ((HKP.out.trans (HK3.out.mono (fun _ _ h => .inl h))).mono (fun k hk h => by omega)) (.inl (Nat.le_refl _)) _ _ _ _ _
        | true =>
          have HPk := HP.out
          cases gk with
          | zero => cases HPk
          | succ n =>
          rw [pm, hp, if_pos rfl] at HPk
          obtain ⟨e2, st2, hf2, hl2⟩ := thn_some HPk
          have hmem := isP_text hp
          clear HPk hp
          obtain ⟨s, hs⟩ : ∃ s, s = takeT l sk adds := ⟨_, rfl⟩
          obtain ⟨sk1, hsk1⟩ : ∃ x, x = takeS l sk adds := ⟨_, rfl⟩
          rw [← hs] at hf2 hl2 hmem ⊢
          rw [← hsk1] at hf2 hl2 HRD3
          clear hs hsk1
          have HF2 := Lib.hid hf2; have HL2 := Lib.hid hl2
          clear hf2 hl2
          simp only [List.mem_cons, List.not_mem_nil, or_false] at hmem
          rcases hmem with rfl | rfl | rfl
          · have hf2 := HF2.out
            have hl2 := HL2.out
            rw [show addS l sk1 gPlus = sk1 from rfl] at hf2
            rw [show addOp l sk1 gPlus = 15 from rfl] at hl2
            have HF2 := Lib.hid hf2; have HL2 := Lib.hid hl2
            clear hf2 hl2
            go_wp2_with fail
            have HBK3 := Lib.hid (HK3.out.blk HBK.out (Ne.symm (Nat.ne_of_lt hbE)))
            have HROW3 := Lib.hid (HROW.out.keep HK3.out (fun k h1 h2 => by omega))
            have a5 := HBK3.out.all5
            have hwb : w.heap.size ≤ w3.heap.size := by have := HKP.out.size; have := HK3.out.size; omega
            have hb3 : bE < w3.heap.size := HBK3.out.lt
            have hd3 : Keep (fun _ => False) w3 w3.drew := (Keep.refl _ w3).drew
            have HD3 := Lib.hid hd3
            clear hd3
            go_region_with (first
              | (go_at_call 124; refine (HF.out n (by omega) _ _ e2 st2 (HRD3.out.keepF HD3.out) HF2.out).mono ?_; rintro en w5 ⟨A5, cc5, rfl, hrow5, hrd5, hk5⟩; have hk5' := (HD3.out.mono (Q := (· = b)) (fun _ _ h => h.elim)).trans hk5; have HBK5 := Lib.hid (hk5'.blk HBK3.out (Ne.symm (Nat.ne_of_lt hbE))); have HROW5 := Lib.hid (HROW3.out.keep hk5' (fun k h1 h2 => by omega)); have HR5 := Lib.hid hrow5; have HRD5 := Lib.hid hrd5; have HK5 := Lib.hid hk5'; have c5 := HBK5.out.all5; clear hrow5 hrd5 hk5 hk5'; unfold exA)
              | (go_at_call 90; refine (two_any (fun k => w.heap.size < k ∧ k ≠ bE) 15 ek e2 A A5 cc cc5 _ (fun k hk => by have := HK5.out.size; omega) HROW5.out (HR5.out.mono (fun k _ h => by have h : w3.heap.size ≤ k := h; omega))).mono ?_; rintro en w6 ⟨A6, cc6, rfl, hrow6, hk6⟩; have HBK6 := Lib.hid (hk6.blk HBK5.out (fun h => h)); have HROW6 := Lib.hid hrow6; have HK6 := Lib.hid hk6; clear hrow6 hk6; have d5 := HBK6.out.all5; unfold exA)
              )
            all_goals
              go_wp2_with fail
              go_roundg n
              case measure => omega
              case rel =>
                refine ⟨exTwo 15 ek e2, st2, A6, cc6, HBK6.out.set5 _ _ _ _ _, ?_, ?_, ?_, ?_, by omega, HL2.out⟩
                · exact Blk.put5 (HK6.out.blk (HK5.out.blk (HK3.out.blk HB0k.out (by omega)) (by omega)) (fun h => h)) (by omega) _ _ _ _ _
                · exact HROW6.out.keep (P := (· = bE)) (Keep.put5 (P := (· = bE)) (b := bE) (Keep.refl _ _) (.inr rfl) _ _ _ _ _) (fun k h1 h2 => by omega)
                · exact (HRD5.out.keepF HK6.out).keep (P := (· = bE)) (Keep.put5 (P := (· = bE)) (b := bE) (Keep.refl _ _) (.inr rfl) _ _ _ _ _) (by omega) (by omega)
                · exact Keep.put5 (((HKP.out.trans (HK3.out.mono (fun _ _ h => .inl h))).trans (HK5.out.mono (fun _ _ h => .inl h))).trans (HK6.out.mono (fun _ _ h => h.elim))) (.inr (.inr rfl)) _ _ _ _ _
          · have hf2 := HF2.out
            have hl2 := HL2.out
            rw [show addS l sk1 gMinus = sk1 from rfl] at hf2
            rw [show addOp l sk1 gMinus = 16 from rfl] at hl2
            have HF2 := Lib.hid hf2; have HL2 := Lib.hid hl2
            clear hf2 hl2
            go_wp2_with fail
            have HBK3 := Lib.hid (HK3.out.blk HBK.out (Ne.symm (Nat.ne_of_lt hbE)))
            have HROW3 := Lib.hid (HROW.out.keep HK3.out (fun k h1 h2 => by omega))
            have a5 := HBK3.out.all5
            have hwb : w.heap.size ≤ w3.heap.size := by have := HKP.out.size; have := HK3.out.size; omega
            have hb3 : bE < w3.heap.size := HBK3.out.lt
            have hd3 : Keep (fun _ => False) w3 w3.drew := (Keep.refl _ w3).drew
            have HD3 := Lib.hid hd3
            clear hd3
            go_region_with (first
              | (go_at_call 124; refine (HF.out n (by omega) _ _ e2 st2 (HRD3.out.keepF HD3.out) HF2.out).mono ?_; rintro en w5 ⟨A5, cc5, rfl, hrow5, hrd5, hk5⟩; have hk5' := (HD3.out.mono (Q := (· = b)) (fun _ _ h => h.elim)).trans hk5; have HBK5 := Lib.hid (hk5'.blk HBK3.out (Ne.symm (Nat.ne_of_lt hbE))); have HROW5 := Lib.hid (HROW3.out.keep hk5' (fun k h1 h2 => by omega)); have HR5 := Lib.hid hrow5; have HRD5 := Lib.hid hrd5; have HK5 := Lib.hid hk5'; have c5 := HBK5.out.all5; clear hrow5 hrd5 hk5 hk5'; unfold exA)
              | (go_at_call 90; refine (two_any (fun k => w.heap.size < k ∧ k ≠ bE) 16 ek e2 A A5 cc cc5 _ (fun k hk => by have := HK5.out.size; omega) HROW5.out (HR5.out.mono (fun k _ h => by have h : w3.heap.size ≤ k := h; omega))).mono ?_; rintro en w6 ⟨A6, cc6, rfl, hrow6, hk6⟩; have HBK6 := Lib.hid (hk6.blk HBK5.out (fun h => h)); have HROW6 := Lib.hid hrow6; have HK6 := Lib.hid hk6; clear hrow6 hk6; have d5 := HBK6.out.all5; unfold exA)
              )
            all_goals
              go_wp2_with fail
              go_roundg n
              case measure => omega
              case rel =>
                refine ⟨exTwo 16 ek e2, st2, A6, cc6, HBK6.out.set5 _ _ _ _ _, ?_, ?_, ?_, ?_, by omega, HL2.out⟩
                · exact Blk.put5 (HK6.out.blk (HK5.out.blk (HK3.out.blk HB0k.out (by omega)) (by omega)) (fun h => h)) (by omega) _ _ _ _ _
                · exact HROW6.out.keep (P := (· = bE)) (Keep.put5 (P := (· = bE)) (b := bE) (Keep.refl _ _) (.inr rfl) _ _ _ _ _) (fun k h1 h2 => by omega)
                · exact (HRD5.out.keepF HK6.out).keep (P := (· = bE)) (Keep.put5 (P := (· = bE)) (b := bE) (Keep.refl _ _) (.inr rfl) _ _ _ _ _) (by omega) (by omega)
                · exact Keep.put5 (((HKP.out.trans (HK3.out.mono (fun _ _ h => .inl h))).trans (HK5.out.mono (fun _ _ h => .inl h))).trans (HK6.out.mono (fun _ _ h => h.elim))) (.inr (.inr rfl)) _ _ _ _ _
          · go_wp2_with fail
            obtain ⟨W4, hWW4⟩ : ∃ W4, W4 = w3.alloc (.cells #[.string wElse] 9) := ⟨_, rfl⟩
            rw [← hWW4]
            have HBW4 := Lib.hid (show Blk W4 w3.heap.size #[.string wElse] 9 by rw [hWW4]; exact Blk.new _ _ _)
            have HAW4 := Lib.hid (show Keep (fun _ => False) w3 W4 by rw [hWW4]; exact (Keep.refl _ _).alloc _)
            have HZW4 := Lib.hid (show W4.heap.size = w3.heap.size + 1 by rw [hWW4]; simp)
            clear hWW4
            refine (take_any b g c l sk1 w3.heap.size 1 1 [wElse] W4 (HRD3.out.keepF HAW4.out) (textR_blk HBW4.out) rfl (by decide)).mono ?_
            rintro en w4 ⟨rfl, hrd4, hk4⟩
            have HK4 := Lib.hid (HK3.out.trans ((HAW4.out.mono (Q := (· = b)) (fun _ _ h => h.elim)).trans hk4))
            have HRD4 := Lib.hid hrd4
            clear hrd4 hk4
            cases hp2 : isP l sk1 [wElse] with
            | true =>
              have hf2 := HF2.out
              have hl2 := HL2.out
              rw [show addS l sk1 wOr = takeS l sk1 [wElse] from rfl] at hf2
              rw [show addOp l sk1 wOr = 18 from by unfold addOp; rw [hp2]; rfl] at hl2
              have HF2 := Lib.hid hf2; have HL2 := Lib.hid hl2
              clear hf2 hl2
              clear hp2
              go_wp2_with fail
              have HBK3 := Lib.hid (HK4.out.blk HBK.out (Ne.symm (Nat.ne_of_lt hbE)))
              have HROW3 := Lib.hid (HROW.out.keep HK4.out (fun k h1 h2 => by omega))
              have a5 := HBK3.out.all5
              have hwb : w.heap.size ≤ w4.heap.size := by have := HKP.out.size; have := HK4.out.size; omega
              have hb3 : bE < w4.heap.size := HBK3.out.lt
              have hd3 : Keep (fun _ => False) w4 w4.drew := (Keep.refl _ w4).drew
              have HD3 := Lib.hid hd3
              clear hd3
              go_region_with (first
                | (go_at_call 124; refine (HF.out n (by omega) _ _ e2 st2 (HRD4.out.keepF HD3.out) HF2.out).mono ?_; rintro en w5 ⟨A5, cc5, rfl, hrow5, hrd5, hk5⟩; have hk5' := (HD3.out.mono (Q := (· = b)) (fun _ _ h => h.elim)).trans hk5; have HBK5 := Lib.hid (hk5'.blk HBK3.out (Ne.symm (Nat.ne_of_lt hbE))); have HROW5 := Lib.hid (HROW3.out.keep hk5' (fun k h1 h2 => by omega)); have HR5 := Lib.hid hrow5; have HRD5 := Lib.hid hrd5; have HK5 := Lib.hid hk5'; have c5 := HBK5.out.all5; clear hrow5 hrd5 hk5 hk5'; unfold exA)
                | (go_at_call 90; refine (two_any (fun k => w.heap.size < k ∧ k ≠ bE) 18 ek e2 A A5 cc cc5 _ (fun k hk => by have := HK5.out.size; omega) HROW5.out (HR5.out.mono (fun k _ h => by have h : w4.heap.size ≤ k := h; omega))).mono ?_; rintro en w6 ⟨A6, cc6, rfl, hrow6, hk6⟩; have HBK6 := Lib.hid (hk6.blk HBK5.out (fun h => h)); have HROW6 := Lib.hid hrow6; have HK6 := Lib.hid hk6; clear hrow6 hk6; have d5 := HBK6.out.all5; unfold exA)
                )
              all_goals
                go_wp2_with fail
                go_roundg n
                case measure => omega
                case rel =>
                  refine ⟨exTwo 18 ek e2, st2, A6, cc6, HBK6.out.set5 _ _ _ _ _, ?_, ?_, ?_, ?_, by omega, HL2.out⟩
                  · exact Blk.put5 (HK6.out.blk (HK5.out.blk (HK4.out.blk HB0k.out (by omega)) (by omega)) (fun h => h)) (by omega) _ _ _ _ _
                  · exact HROW6.out.keep (P := (· = bE)) (Keep.put5 (P := (· = bE)) (b := bE) (Keep.refl _ _) (.inr rfl) _ _ _ _ _) (fun k h1 h2 => by omega)
                  · exact (HRD5.out.keepF HK6.out).keep (P := (· = bE)) (Keep.put5 (P := (· = bE)) (b := bE) (Keep.refl _ _) (.inr rfl) _ _ _ _ _) (by omega) (by omega)
                  · exact Keep.put5 (((HKP.out.trans (HK4.out.mono (fun _ _ h => .inl h))).trans (HK5.out.mono (fun _ _ h => .inl h))).trans (HK6.out.mono (fun _ _ h => h.elim))) (.inr (.inr rfl)) _ _ _ _ _
            | false =>
              have hf2 := HF2.out
              have hl2 := HL2.out
              rw [show addS l sk1 wOr = takeS l sk1 [wElse] from rfl] at hf2
              rw [show addOp l sk1 wOr = 17 from by unfold addOp; rw [hp2]; rfl] at hl2
              have HF2 := Lib.hid hf2; have HL2 := Lib.hid hl2
              clear hf2 hl2
              clear hp2
              go_wp2_with fail
              have HBK3 := Lib.hid (HK4.out.blk HBK.out (Ne.symm (Nat.ne_of_lt hbE)))
              have HROW3 := Lib.hid (HROW.out.keep HK4.out (fun k h1 h2 => by omega))
              have a5 := HBK3.out.all5
              have hwb : w.heap.size ≤ w4.heap.size := by have := HKP.out.size; have := HK4.out.size; omega
              have hb3 : bE < w4.heap.size := HBK3.out.lt
              have hd3 : Keep (fun _ => False) w4 w4.drew := (Keep.refl _ w4).drew
              have HD3 := Lib.hid hd3
              clear hd3
              go_region_with (first
                | (go_at_call 124; refine (HF.out n (by omega) _ _ e2 st2 (HRD4.out.keepF HD3.out) HF2.out).mono ?_; rintro en w5 ⟨A5, cc5, rfl, hrow5, hrd5, hk5⟩; have hk5' := (HD3.out.mono (Q := (· = b)) (fun _ _ h => h.elim)).trans hk5; have HBK5 := Lib.hid (hk5'.blk HBK3.out (Ne.symm (Nat.ne_of_lt hbE))); have HROW5 := Lib.hid (HROW3.out.keep hk5' (fun k h1 h2 => by omega)); have HR5 := Lib.hid hrow5; have HRD5 := Lib.hid hrd5; have HK5 := Lib.hid hk5'; have c5 := HBK5.out.all5; clear hrow5 hrd5 hk5 hk5'; unfold exA)
                | (go_at_call 90; refine (two_any (fun k => w.heap.size < k ∧ k ≠ bE) 17 ek e2 A A5 cc cc5 _ (fun k hk => by have := HK5.out.size; omega) HROW5.out (HR5.out.mono (fun k _ h => by have h : w4.heap.size ≤ k := h; omega))).mono ?_; rintro en w6 ⟨A6, cc6, rfl, hrow6, hk6⟩; have HBK6 := Lib.hid (hk6.blk HBK5.out (fun h => h)); have HROW6 := Lib.hid hrow6; have HK6 := Lib.hid hk6; clear hrow6 hk6; have d5 := HBK6.out.all5; unfold exA)
                )
              all_goals
                go_wp2_with fail
                go_roundg n
                case measure => omega
                case rel =>
                  refine ⟨exTwo 17 ek e2, st2, A6, cc6, HBK6.out.set5 _ _ _ _ _, ?_, ?_, ?_, ?_, by omega, HL2.out⟩
                  · exact Blk.put5 (HK6.out.blk (HK5.out.blk (HK4.out.blk HB0k.out (by omega)) (by omega)) (fun h => h)) (by omega) _ _ _ _ _
                  · exact HROW6.out.keep (P := (· = bE)) (Keep.put5 (P := (· = bE)) (b := bE) (Keep.refl _ _) (.inr rfl) _ _ _ _ _) (fun k h1 h2 => by omega)
                  · exact (HRD5.out.keepF HK6.out).keep (P := (· = bE)) (Keep.put5 (P := (· = bE)) (b := bE) (Keep.refl _ _) (.inr rfl) _ _ _ _ _) (by omega) (by omega)
                  · exact Keep.put5 (((HKP.out.trans (HK4.out.mono (fun _ _ h => .inl h))).trans (HK5.out.mono (fun _ _ h => .inl h))).trans (HK6.out.mono (fun _ _ h => h.elim))) (.inr (.inr rfl)) _ _ _ _ _
end Go.Proofs.YtgmmjhelcpgakaaGreatDoor
