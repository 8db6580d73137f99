/- Package lexpas: quoted, numbered. -/
import Derived.Test.YtcdmkmbbliaefaaGreatDoorCutLeft
import Derived.Test.YtcdmkmbbliaefaaGreatDoorName
namespace Go.Proofs.YtcdmkmbbliaefaaGreatDoor
open Go.RowKit
set_option linter.unusedVariables false
set_option linter.unusedSimpArgs false

theorem dig_range {c : UInt8} (h : digB c = true) : 48 ≤ c.toNat ∧ c.toNat ≤ 57 := by unfold digB at h; simpa using h
theorem small_num : ∀ (l : Bs) (acc : Nat), (∀ c ∈ l, digB c = true) → (acc + 1) * 10 ^ l.length ≤ 100000 →
    ∃ u, Lib.parseUint10 acc l = .ok u ∧ numGo acc l = some u ∧ u < (acc + 1) * 10 ^ l.length
  | [], acc, _, _ => ⟨acc, by simp [Lib.parseUint10], rfl, by simp⟩
  | c :: l, acc, hd, hb => by
    have hc := dig_range (hd c (by simp))
    have hp : 0 < 10 ^ l.length := Nat.pow_pos (by decide)
    have h0 : (10 * acc + (c.toNat - 48) + 1) ≤ 10 * (acc + 1) := by omega
    have h1 : (10 * acc + (c.toNat - 48) + 1) * 10 ^ l.length ≤ (acc + 1) * 10 ^ (l.length + 1) := by
      rw [Nat.pow_succ, ← Nat.mul_assoc, Nat.mul_right_comm]
      have := Nat.mul_le_mul_right (10 ^ l.length) h0
      rw [Nat.mul_comm 10 (acc + 1)] at this
      exact this
    have h2 : 10 * acc + (c.toNat - 48) + 1 ≤ 100000 := by
      have h3 : (acc + 1) * 10 ^ (l.length + 1) ≤ 100000 := by simpa using hb
      have h4 := Nat.le_mul_of_pos_right (10 * acc + (c.toNat - 48) + 1) hp
      omega
    have h6 : (acc + 1) * 10 ^ (l.length + 1) ≤ 100000 := by simpa using hb
    obtain ⟨u, hu1, hu2, hu3⟩ := small_num l (10 * acc + (c.toNat - 48)) (fun x hx => hd x (by simp [hx])) (Nat.le_trans h1 h6)
    refine ⟨u, ?_, ?_, by simp only [List.length_cons]; omega⟩
    · rw [show 10 * acc = acc * 10 from Nat.mul_comm _ _] at hu1
      simp only [Lib.parseUint10]
      rw [if_pos (by omega), if_neg (by omega), if_neg (by omega)]
      exact hu1
    · rw [numGo, if_neg (by omega)]; exact hu2
theorem atoi_small (l : Bs) (hd : ∀ c ∈ l, digB c = true) (h1 : l ≠ []) (h3 : l.length ≤ 3) : ∃ u : Nat, Lib.atoiAll l = .ok (u : Int) ∧ numGo 0 l = some u := by
  have hb : (0 + 1) * 10 ^ l.length ≤ 100000 := by
    have := Nat.pow_le_pow_right (n := 10) (by decide) h3
    omega
  obtain ⟨u, hu1, hu2, hu3⟩ := small_num l 0 hd hb
  refine ⟨u, ?_, hu2⟩
  have hu4 : u < 100000 := by omega
  match l, h1, hd, hu1 with
  | c :: r, _, hd, hu1 =>
    have hc := dig_range (hd c (by simp))
    unfold Lib.atoiAll
    simp only
    rw [if_neg (by omega)]
    unfold Lib.parseMag
    rw [if_neg (by simp), hu1]
    simp only
    rw [if_neg (by omega), if_neg (by omega), if_neg (by omega)]
/-- How Atoi ends at digits: a number, or an error. -/
theorem atoi_any (s : ByteArray) (hs : s.size ≤ 140737488351232) (base : Nat) (w : World) (hg : Glob base w) (hb : base ≤ w.heap.size) :
    Calls Tryz.prog 58 #[.string s] w fun e w' => (∃ n ev, e = .returned (.tuple #[.int .i64 n, ev]) ∧ ((∃ v, Lib.atoiAll (bs s) = .ok v ∧ n = v ∧ ev = .nilIface) ∨ ((∀ v, Lib.atoiAll (bs s) ≠ .ok v) ∧ ∃ N, ev = .iface 131 (.pointer (some ⟨N, 0, none⟩))))) ∧ Below w.heap.size w w' := by
  obtain ⟨e1, h1, f1⟩ := hg.syn
  obtain ⟨e2, h2, f2⟩ := hg.rng
  cases h : Lib.atoiAll (bs s) with
  | ok v => exact (atoi_ok s (by omega) v h w).mono fun e w' ⟨he, hw⟩ => ⟨⟨v, .nilIface, he, .inl ⟨v, rfl, rfl, rfl⟩⟩, atoi_world hw⟩
  | range => exact (atoi_range s (by omega) h e2 w h2 f2).mono fun e w' ⟨N, he, hw⟩ => ⟨⟨_, _, he, .inr ⟨(fun v hv => by cases hv), N, rfl⟩⟩, hw⟩
  | _ => exact (atoi_bad s (by omega) (fun v hv => by rw [show s.data.toList = bs s from rfl, h] at hv; cases hv) (fun hv => by rw [show s.data.toList = bs s from rfl, h] at hv; cases hv) e1 w h1 f1).mono fun e w' ⟨N, he, hw⟩ => ⟨⟨_, _, he, .inr ⟨(fun v hv => by cases hv), N, rfl⟩⟩, hw⟩

set_option maxRecDepth 100000 in
set_option maxHeartbeats 2000000 in
theorem numbered_any (base bl bc : Nat) (s : ByteArray) (p : Nat) (v : Value) (l : List TokL) (last : Int) (w : World) (h : Sc w base 49 bl bc 0 s p v l last) (hl : l.length ≤ 900000) (hg : Glob base w) (hp : p < s.size) (k : Nat) (hk : k = spanLen digB ((bs s).drop (p + 1))) (F : Fd) (hF : F = tokNumbered ((bs s).drop p)) :
    Calls Tryz.prog 37 #[.pointer (some ⟨bl, 0, none⟩)] w fun e w' =>
      e = .returned (.int .i64 F.err) ∧ Below base w w' ∧ (F.err ≠ 0 → Keep (fun _ => False) w w') ∧ (F.err = 0 → Lays1 base 49 bl bc s w (p + F.len) (l ++ [⟨4, ⟨#[]⟩, F.n, last == ((lineAt s p : Nat) : Int), posA s p⟩]) w') := by
  have hsz := h.hs
  obtain ⟨R0, hR0⟩ : ∃ R0, R0 = s.extract p s.size := ⟨_, rfl⟩
  have hs0 : R0.size = s.size - p := by rw [hR0, ByteArray.size_extract]; omega
  have hb0 : bs R0 = (bs s).drop p := by rw [hR0]; exact bs_tail s p
  obtain ⟨R1, hR1⟩ : ∃ R1, R1 = R0.extract 1 R0.size := ⟨_, rfl⟩
  have hs1 : R1.size = s.size - p - 1 := by rw [hR1, ByteArray.size_extract]; omega
  have hb1 : bs R1 = (bs s).drop (p + 1) := by rw [hR1, bs_tail, hb0, List.drop_drop]
  have hk1 : spanAt digB R1 0 = k := by unfold spanAt; rw [hb1, hk]; rfl
  have hkle : k ≤ R1.size := by have := spanAt_le digB R1 0 (Nat.zero_le _); omega
  obtain ⟨R2, hR2⟩ : ∃ R2, R2 = R1.extract k R1.size := ⟨_, rfl⟩
  have hs2 : R2.size = R1.size - k := by rw [hR2, ByteArray.size_extract]; omega
  obtain ⟨R3, hR3⟩ : ∃ R3, R3 = R1.extract 0 k := ⟨_, rfl⟩
  have hs3 : R3.size = k := by rw [hR3, ByteArray.size_extract]; omega
  have hb3 : bs R3 = ((bs s).drop (p + 1)).take k := by rw [hR3, bs_extract, hb1]; rfl
  have hd3 : ∀ c ∈ bs R3, digB c = true := by
    rw [hb3, hk]
    intro c hc
    have h1 : ((bs s).drop (p + 1)).take (spanLen digB ((bs s).drop (p + 1))) = ((bs s).drop (p + 1)).takeWhile digB := (List.prefix_iff_eq_take.1 (List.takeWhile_prefix _)).symm
    rw [h1] at hc
    exact List.all_eq_true.1 (List.all_takeWhile (p := digB) (l := (bs s).drop (p + 1))) c hc
  have HRS : Hid (∀ W, Keep (fun _ => False) w W → Calls Tryz.prog 32 #[.pointer (some ⟨bl, 0, none⟩)] W fun e w' => e = .returned (.string R0) ∧ Keep (fun _ => False) W w') := fun W hk => by rw [hR0]; exact h.rest hk
  have HCL : Hid (∀ W, Calls Tryz.prog 57 #[.string R1, .string tenSet] W fun e w' => e = .returned (.string R2) ∧ Keep (fun _ => False) W w') := fun W => by
    have := cutLeft_any R1 W (by omega)
    rw [hk1, ← hR2] at this
    exact this
  have HAT : Hid (∀ W, Keep (fun _ => False) w W → Calls Tryz.prog 58 #[.string R3] W fun e w' => (∃ n ev, e = .returned (.tuple #[.int .i64 n, ev]) ∧ ((∃ v, Lib.atoiAll (bs R3) = .ok v ∧ n = v ∧ ev = .nilIface) ∨ ((∀ v, Lib.atoiAll (bs R3) ≠ .ok v) ∧ ∃ N, ev = .iface 131 (.pointer (some ⟨N, 0, none⟩))))) ∧ Below W.heap.size W w') := fun W hk => atoi_any R3 (by omega) base W (hg.keep hk h.base_le (fun _ h => h.elim)) (by have := h.base_le; have := hk.size; omega)
  have hFx : F = if k = 0 ∨ 3 < k then fail 7 else match numGo 0 (bs R3) with | some n => if 255 < n then fail 7 else ⟨0, 4, [], n, 1 + k⟩ | none => fail 7 := by
    rw [hF]; unfold tokNumbered; rw [List.drop_drop, hb3, hk]; rfl
  have H3 := Lib.hid (And.intro hs3 (And.intro hb3 (And.intro hd3 hFx)))
  have HR1 := Lib.hid hR1
  have HR3 := Lib.hid hR3
  have hz0 : (0 : Int) ≤ 1 := by decide
  have hz1 : (1 : Int) ≤ (R0.size : Int) := by omega
  have hz2 : (0 : Int) ≤ ((R0.size - 1 : Nat) : Int) - (R2.size : Int) := by omega
  have hz3 : ((R0.size - 1 : Nat) : Int) - (R2.size : Int) ≤ (R1.size : Int) := by omega
  have hz4 : R0.size - 1 - R2.size = k := by omega
  have HZ4 := Lib.hid hz4
  have hm1 : ((R0.size - 1 : Nat) : Int) ≤ 140737488351232 := by omega
  have hm2 : (R2.size : Int) ≤ 140737488351232 := by omega
  have hk3 : 1 + k ≤ s.size - p := by omega
  have HK3 := Lib.hid hk3
  clear hs0 hb0 hs1 hb1 hk1 hkle hR2 hs2 hs3 hb3 hd3 hFx hF hk hR0 hR1 hR3 hz4 hk3
  go_enter Tryz.func37, Tryz.ntmps37
  go_wp2_with fail
  refine (HRS.out _ (Keep.refl _ _)).mono ?_
  rintro e1 w1 ⟨rfl, hk1⟩
  unfold tenSet at HCL
  go_wp2_with fail
  rw [← HR1.out]
  refine (HCL.out _).mono ?_
  rintro e2 w2 ⟨rfl, hk2⟩
  go_wp2_with fail
  rw [HZ4.out, ← HR3.out]
  refine (HAT.out _ (hk1.trans hk2)).mono ?_
  rintro e3 w3 ⟨⟨n, ev, rfl, hcase⟩, hb3⟩
  have HKW := Lib.hid ((hk1.trans hk2).trans (Keep.of_below (P := fun _ => False) hb3))
  have HC := Lib.hid hcase
  have hS3 := h.grow HKW.out
  obtain ⟨hr3, hbs3, hd3, hFx⟩ := H3.out
  have HFX := Lib.hid hFx
  have hsz3 : ((R3.size : Nat) : Int) = (k : Int) := by rw [hr3]
  clear hcase hb3 hk1 hk2 H3 HAT HCL HRS hFx
  by_cases hok : ∃ v, Lib.atoiAll (bs R3) = .ok v ∧ n = v ∧ ev = .nilIface
  · obtain ⟨va, hva, rfl, rfl⟩ := hok
    have hne : k ≠ 0 := by
      intro h0
      have h1 : bs R3 = [] := List.eq_nil_of_length_eq_zero (by rw [bs_len, hr3]; exact h0)
      rw [h1] at hva; cases hva
    by_cases h3k : 3 < k
    · have t3 : decide ((3 : Int) < (k : Int)) = true := by simp; omega
      have t3' : decide ((3 : Int) < (R3.size : Int)) = true := by simp; omega
      have HF1 : Hid (F = fail 7) := by show F = fail 7; rw [HFX.out, if_pos (Or.inr h3k)]
      clear hva hbs3 hr3
      go_wp2_with fail
      go_ret
      exact ⟨by rw [HF1.out]; rfl, HKW.out.belowB h.base_le, fun _ => HKW.out, fun h0 => by rw [HF1.out] at h0; cases h0⟩
    · have t3' : decide ((3 : Int) < (R3.size : Int)) = false := by simp; omega
      obtain ⟨u, hu1, hu2⟩ := atoi_small (bs R3) hd3 (by intro h0; have := congrArg List.length h0; rw [bs_len, hr3] at this; exact hne this) (by rw [bs_len, hr3]; omega)
      rw [hva] at hu1
      injection hu1 with hu1
      subst hu1
      have HU2 := Lib.hid hu2
      have hsr : 1 + R3.size = 1 + k := by rw [hr3]
      have HSR := Lib.hid hsr
      have HR3S := Lib.hid hr3
      have hbig : R3.size ≤ 3 := by omega
      have hkne : ¬ (k = 0 ∨ 3 < k) := by omega
      have HKN := Lib.hid hkne
      clear hva hbs3 hr3 hu2 hne h3k hsz3 hsr hkne
      by_cases h255 : 255 < u
      · have t5 : decide ((255 : Int) < (u : Int)) = true := by simp; omega
        have HF1 : Hid (F = fail 7) := by show F = fail 7; rw [HFX.out, if_neg HKN.out, HU2.out]; show (if 255 < u then fail 7 else _) = _; rw [if_pos h255]
        go_wp2_with fail
        go_ret
        exact ⟨by rw [HF1.out]; rfl, HKW.out.belowB h.base_le, fun _ => HKW.out, fun h0 => by rw [HF1.out] at h0; cases h0⟩
      · have t5 : decide ((255 : Int) < (u : Int)) = false := by simp; omega
        have HF1 : Hid (F = ⟨0, 4, [], u, 1 + k⟩) := by show F = _; rw [HFX.out, if_neg HKN.out, HU2.out]; show (if 255 < u then fail 7 else _) = _; rw [if_neg h255]
        have hpk : p + (1 + R3.size) ≤ s.size := by have := HK3.out; have := HSR.out; omega
        go_wp2_with fail
        have hch := char_any base 49 bl bc s p v l last w3 hS3 hl u (1 + R3.size) hpk
        rw [show ((1 + R3.size : Nat) : Int) = 1 + (R3.size : Int) from by omega] at hch
        refine hch.mono ?_
        clear hch
        rintro e4 w4 ⟨rfl, hL4⟩
        rw [HSR.out] at hL4
        have HL4 := Lib.hid hL4
        clear hL4
        go_wp2_with fail
        go_ret
        rw [HF1.out]
        exact ⟨rfl, (HKW.out.belowB h.base_le).trans HL4.out.2, (fun h0 => absurd rfl h0), fun _ => ⟨HL4.out.1, (HKW.out.belowB h.base_le).trans HL4.out.2⟩⟩
  · have hbad : (∀ v, Lib.atoiAll (bs R3) ≠ .ok v) ∧ ∃ N, ev = .iface 131 (.pointer (some ⟨N, 0, none⟩)) := by
      rcases HC.out with h1 | h1
      · exact absurd h1 hok
      · exact h1
    obtain ⟨hno, N, rfl⟩ := hbad
    have HF1 : Hid (F = fail 7) := by
      show F = fail 7
      rw [HFX.out]
      by_cases hk0 : k = 0 ∨ 3 < k
      · rw [if_pos hk0]
      · obtain ⟨u, hu1, hu2⟩ := atoi_small (bs R3) hd3 (by intro h0; have := congrArg List.length h0; rw [bs_len, hr3] at this; exact hk0 (.inl this)) (by rw [bs_len, hr3]; omega)
        exact absurd hu1 (hno _)
    clear hno hok hbs3 hr3 hsz3
    go_wp2_with fail
    go_ret
    exact ⟨by rw [HF1.out]; rfl, HKW.out.belowB h.base_le, fun _ => HKW.out, fun h0 => by rw [HF1.out] at h0; cases h0⟩
end Go.Proofs.YtcdmkmbbliaefaaGreatDoor
