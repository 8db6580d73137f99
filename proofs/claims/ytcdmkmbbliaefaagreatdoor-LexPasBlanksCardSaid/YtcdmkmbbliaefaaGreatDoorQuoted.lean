/- Package lexpas: quoted. -/
import Derived.Test.YtcdmkmbbliaefaaGreatDoorNumb
import Derived.Deep.RegionWith
import Derived.IntWalk
namespace Go.Proofs.YtcdmkmbbliaefaaGreatDoor
open Go.RowKit
set_option linter.unusedVariables false
set_option linter.unusedSimpArgs false

theorem plain_any (c : UInt8) (w : World) :
    Calls Tryz.prog 56 #[.int .u8 (c.toNat : Int)] w fun e w' => e = .returned (.bool (plainB c)) ∧ w' = w := by
  have h39 : (c != 39) = ((c.toNat : Int) != 39) := by
    rw [Bool.eq_iff_iff]; simp only [bne_iff_ne, ne_eq]
    constructor
    · intro h h'; exact h (by apply UInt8.toNat_inj.1; show c.toNat = 39; omega)
    · intro h h'; subst h'; exact h rfl
  have e : plainB c = (decide (32 ≤ (c.toNat : Int)) && decide ((c.toNat : Int) ≤ 126) && ((c.toNat : Int) != 39)) := by
    unfold plainB; rw [h39]; congr 2 <;> (rw [Bool.eq_iff_iff]; simp; omega)
  rw [e]
  clear e h39
  generalize (c.toNat : Int) = n
  by_cases a1 : 32 ≤ n
  · have b1 : decide (32 ≤ n) = true := by simpa using a1
    by_cases a2 : n ≤ 126
    · have b2 : decide (n ≤ 126) = true := by simpa using a2
      go_enter Tryz.func56, Tryz.ntmps56
      go_wp2
      go_ret
      exact ⟨by simp [b1, b2], rfl⟩
    · have b2 : decide (n ≤ 126) = false := by simpa using a2
      go_enter Tryz.func56, Tryz.ntmps56
      go_wp2
      go_ret
      exact ⟨by simp [b1, b2], rfl⟩
  · have b1 : decide (32 ≤ n) = false := by simpa using a1
    go_enter Tryz.func56, Tryz.ntmps56
    go_wp2
    go_ret
    exact ⟨by simp [b1], rfl⟩

set_option maxRecDepth 100000 in
set_option maxHeartbeats 2000000 in
theorem quoted_any (base bl bc : Nat) (s : ByteArray) (p : Nat) (v : Value) (l : List TokL) (last : Int) (w : World) (h : Sc w base 49 bl bc 0 s p v l last) (hl : l.length ≤ 900000) (F : Fd) (hF : F = tokQuoted ((bs s).drop p)) :
    Calls Tryz.prog 36 #[.pointer (some ⟨bl, 0, none⟩)] w fun e w' =>
      e = .returned (.int .i64 F.err) ∧ Below base w w' ∧ (F.err ≠ 0 → Keep (fun _ => False) w w') ∧ (F.err = 0 → Lays1 base 49 bl bc s w (p + F.len) (l ++ [⟨4, ⟨#[]⟩, F.n, last == ((lineAt s p : Nat) : Int), posA s p⟩]) w') := by
  have hsz := h.hs
  obtain ⟨R0, hR0⟩ : ∃ R0, R0 = s.extract p s.size := ⟨_, rfl⟩
  have hs0 : R0.size = s.size - p := by rw [hR0, ByteArray.size_extract]; omega
  have hb0 : bs R0 = (bs s).drop p := by rw [hR0]; exact bs_tail s p
  have HRS : Hid (∀ W, Keep (fun _ => False) w W → Calls Tryz.prog 32 #[.pointer (some ⟨bl, 0, none⟩)] W fun e w' => e = .returned (.string R0) ∧ Keep (fun _ => False) W w') := fun W hk => by rw [hR0]; exact h.rest hk
  obtain ⟨Q, hQ⟩ : ∃ Q, Q = ([39, 39, 39, 39] : Bs).isPrefixOf (bs R0) := ⟨_, rfl⟩
  have HPF : Hid (∀ W, Calls Tryz.prog 50 #[.string R0, .string ⟨#[39, 39, 39, 39]⟩] W fun e w' => e = .returned (.bool Q) ∧ w' = W) := by
    intro W
    have := hasPrefix_any R0 ⟨#[39, 39, 39, 39]⟩ W
    unfold Lib.hasPrefix at this
    rw [show R0.data.toList = bs R0 from rfl, show (ByteArray.mk #[39, 39, 39, 39]).data.toList = ([39, 39, 39, 39] : Bs) from rfl, ← hQ] at this
    exact this
  rw [← hb0] at hF
  have hp := h.hp
  by_cases hq : Q = true
  · subst hq
    have h4 : 4 ≤ R0.size := by have := prefix_len (hQ.symm); rw [bs_len] at this; simpa using this
    have HF1 : Hid (F = ⟨0, 4, [], 39, 4⟩) := by show F = _; rw [hF]; unfold tokQuoted; rw [if_pos hQ.symm]
    have hp4 : p + 4 ≤ s.size := by omega
    clear hF hQ hs0 hR0 hb0
    go_enter Tryz.func36, Tryz.ntmps36
    go_wp2_with fail
    refine (HRS.out _ (Keep.refl _ _)).mono ?_
    rintro e1 w1 ⟨rfl, hk1⟩
    have hS1 := h.grow hk1
    have HK := Lib.hid hk1
    clear hk1
    go_wp2_with fail
    refine (HPF.out _).mono ?_
    rintro e2 w2 ⟨rfl, rfl⟩
    go_wp2_with fail
    refine (char_any base 49 bl bc s p v l last _ hS1 hl 39 4 hp4).mono ?_
    rintro e4 w4 ⟨rfl, hL4⟩
    have HL4 := Lib.hid hL4
    clear hL4
    go_wp2_with fail
    go_ret
    rw [HF1.out]
    exact ⟨rfl, (HK.out.belowB h.base_le).trans HL4.out.2, (fun h0 => absurd rfl h0), fun _ => ⟨HL4.out.1, (HK.out.belowB h.base_le).trans HL4.out.2⟩⟩
  · have hqf : Q = false := by simpa using hq
    subst hqf
    by_cases h3 : 3 ≤ R0.size
    · have t3 : decide ((3 : Int) ≤ (R0.size : Int)) = true := by simp; omega
      have hi1 : (1 : Int) < (R0.size : Int) := by omega
      have hi2 : (2 : Int) < (R0.size : Int) := by omega
      obtain ⟨c, hc⟩ : ∃ c, c = R0[1]'(by omega) := ⟨_, rfl⟩
      obtain ⟨d, hd⟩ : ∃ d, d = R0[2]'(by omega) := ⟨_, rfl⟩
      have hc1 : ∀ (h : 1 < R0.size), ((R0[1]'h).toNat : Int) = (c.toNat : Int) := fun h => by rw [hc]
      have hd1 : ∀ (h : 2 < R0.size), ((R0[2]'h).toNat : Int) = (d.toNat : Int) := fun h => by rw [hd]
      have hlist : ∃ a r, bs R0 = a :: c :: d :: r := by
        have e1 := bs_get R0 1 (by omega)
        have e2 := bs_get R0 2 (by omega)
        have e0 := bs_len R0
        rw [← hc] at e1
        rw [← hd] at e2
        match hb : bs R0, e1, e2, e0 with
        | a :: x :: y :: r, e1, e2, _ =>
          simp only [List.getElem?_cons_succ, List.getElem?_cons_zero, Option.some.injEq] at e1 e2
          subst e1; subst e2
          exact ⟨a, r, rfl⟩
        | [], e1, _, _ => simp at e1
        | [a], e1, _, _ => simp at e1
        | [a, b], _, e2, _ => simp at e2
      obtain ⟨a, r, hlist⟩ := hlist
      have HFX : Hid (F = if plainB c = true ∧ d = 39 then ⟨0, 4, [], c.toNat, 3⟩ else fail 7) := by
        show F = _; rw [hF]; unfold tokQuoted; rw [if_neg (by rw [← hQ]; decide), hlist]
      have hp3 : p + 3 ≤ s.size := by omega
      obtain ⟨pl, hpl⟩ : ∃ pl, pl = plainB c := ⟨_, rfl⟩
      have HPL : Hid (∀ (n : Int) W, n = (c.toNat : Int) → Calls Tryz.prog 56 #[.int .u8 n] W fun e w' => e = .returned (.bool pl) ∧ w' = W) := fun n W hn => by rw [hn, hpl]; exact plain_any c W
      have HPP := Lib.hid hpl
      have hcl := c.toNat_lt
      have HWR : Hid (IntKind.i64.wrap (c.toNat : Int) = (c.toNat : Int)) := IntWalk.i64_in _ (by omega)
      clear hF hQ hs0 hR0 hb0 hlist hpl hc hd
      by_cases hpt : pl = true
      · subst hpt
        by_cases hd39 : d = 39
        · have td : ((d.toNat : Int) == 39) = true := by subst hd39; rfl
          have HF1 : Hid (F = ⟨0, 4, [], c.toNat, 3⟩) := by show F = _; rw [HFX.out, if_pos ⟨HPP.out.symm, hd39⟩]
          clear hd39
          go_enter Tryz.func36, Tryz.ntmps36
          go_wp2_with fail
          refine (HRS.out _ (Keep.refl _ _)).mono ?_
          rintro e1 w1 ⟨rfl, hk1⟩
          have hS1 := h.grow hk1
          have HK := Lib.hid hk1
          clear hk1
          go_wp2_with fail
          refine (HPF.out _).mono ?_
          rintro e2 w2 ⟨rfl, rfl⟩
          go_wp2_with fail
          refine (HPL.out (c.toNat : Int) _ (Eq.refl _)).mono ?_
          rintro e3 w3 ⟨rfl, rfl⟩
          go_wp2_with fail
          go_region_with (go_at_call 55; rw [HWR.out]; refine (char_any base 49 bl bc s p v l last _ hS1.drew hl (c.toNat : Int) 3 hp3).mono ?_; rintro e4 w4 ⟨rfl, hL4⟩; have HL4 := Lib.hid hL4; clear hL4)
          all_goals
            go_wp2_with fail
            go_ret
            rw [HF1.out]
            exact ⟨rfl, (HK.out.belowB h.base_le).drew.trans HL4.out.2, (fun h0 => absurd rfl h0), fun _ => ⟨HL4.out.1, (HK.out.belowB h.base_le).drew.trans HL4.out.2⟩⟩
        · have td : ((d.toNat : Int) == 39) = false := by
            rw [beq_eq_false_iff_ne]; intro h'; exact hd39 (by apply UInt8.toNat_inj.1; show d.toNat = 39; omega)
          have HF1 : Hid (F = fail 7) := by show F = _; rw [HFX.out, if_neg (fun h' => hd39 h'.2)]
          clear hd39
          go_enter Tryz.func36, Tryz.ntmps36
          go_wp2_with fail
          refine (HRS.out _ (Keep.refl _ _)).mono ?_
          rintro e1 w1 ⟨rfl, hk1⟩
          go_wp2_with fail
          refine (HPF.out _).mono ?_
          rintro e2 w2 ⟨rfl, rfl⟩
          go_wp2_with fail
          refine (HPL.out (c.toNat : Int) _ (Eq.refl _)).mono ?_
          rintro e3 w3 ⟨rfl, rfl⟩
          go_wp2_with fail
          go_ret
          exact ⟨by rw [HF1.out]; rfl, hk1.belowB h.base_le, fun _ => hk1, fun h0 => by rw [HF1.out] at h0; cases h0⟩
      · have hpf : pl = false := by simpa using hpt
        subst hpf
        have HF1 : Hid (F = fail 7) := by show F = _; rw [HFX.out, if_neg (fun h' => by rw [← HPP.out] at h'; cases h'.1)]
        go_enter Tryz.func36, Tryz.ntmps36
        go_wp2_with fail
        refine (HRS.out _ (Keep.refl _ _)).mono ?_
        rintro e1 w1 ⟨rfl, hk1⟩
        go_wp2_with fail
        refine (HPF.out _).mono ?_
        rintro e2 w2 ⟨rfl, rfl⟩
        go_wp2_with fail
        refine (HPL.out (c.toNat : Int) _ (Eq.refl _)).mono ?_
        rintro e3 w3 ⟨rfl, rfl⟩
        go_wp2_with fail
        go_ret
        exact ⟨by rw [HF1.out]; rfl, hk1.belowB h.base_le, fun _ => hk1, fun h0 => by rw [HF1.out] at h0; cases h0⟩
    · have t3 : decide ((3 : Int) ≤ (R0.size : Int)) = false := by simp; omega
      have HF1 : Hid (F = fail 7) := by
        show F = _; rw [hF]; unfold tokQuoted; rw [if_neg (by rw [← hQ]; decide)]
        have e0 := bs_len R0
        match hb : bs R0, e0 with
        | [], _ => rfl
        | [a], _ => rfl
        | [a, b], _ => rfl
        | a :: x :: y :: r, e0 => simp at e0; omega
      clear hF hQ hs0 hR0 hb0
      go_enter Tryz.func36, Tryz.ntmps36
      go_wp2_with fail
      refine (HRS.out _ (Keep.refl _ _)).mono ?_
      rintro e1 w1 ⟨rfl, hk1⟩
      go_wp2_with fail
      refine (HPF.out _).mono ?_
      rintro e2 w2 ⟨rfl, rfl⟩
      go_wp2_with fail
      go_ret
      exact ⟨by rw [HF1.out]; rfl, hk1.belowB h.base_le, fun _ => hk1, fun h0 => by rw [HF1.out] at h0; cases h0⟩
end Go.Proofs.YtcdmkmbbliaefaaGreatDoor
