/- Package lexpas: quoted. -/
import Derived.Test.YtgmmjhelcpgakaaGreatDoorGI
import Derived.Deep.RegionWith
import Derived.IntWalk
namespace Go.Proofs.YtgmmjhelcpgakaaGreatDoor
open Go.RowKit
set_option linter.unusedVariables false
set_option linter.unusedSimpArgs false

theorem plain_any (c : UInt8) (w : World) :
    Calls Tryz.prog 120 #[.int .u8 (c.toNat : Int)] w fun e w' => e = .returned (.bool (plainB c)) ∧ w' = w := by
  have h39 : (c != 39) = ((c.toNat : Int) != 39) := by
    rw [Bool.eq_iff_iff]; simp only [bne_iff_ne, ne_eq]
    constructor
    · intro h h'; exact h (by apply UInt8.toNat_inj.1; show c.toNat = 39; omega)
    · intro h h'; subst h'; exact h rfl
  have e : plainB c = (decide (32 ≤ (c.toNat : Int)) && decide ((c.toNat : Int) ≤ 126) && ((c.toNat : Int) != 39)) := by
    unfold plainB; rw [h39]; congr 2 <;> (rw [Bool.eq_iff_iff]; simp; omega)
  rw [e]
  clear e h39
  generalize (c.toNat : Int) = n
  by_cases a1 : 32 ≤ n
  · have b1 : decide (32 ≤ n) = true := by simpa using a1
    by_cases a2 : n ≤ 126
    · have b2 : decide (n ≤ 126) = true := by simpa using a2
      go_enter Tryz.func120, Tryz.ntmps120
      go_wp2
      go_ret
      exact ⟨by simp [b1, b2], rfl⟩
    · have b2 : decide (n ≤ 126) = false := by simpa using a2
      go_enter Tryz.func120, Tryz.ntmps120
      go_wp2
      go_ret
      exact ⟨by simp [b1, b2], rfl⟩
  · have b1 : decide (32 ≤ n) = false := by simpa using a1
    go_enter Tryz.func120, Tryz.ntmps120
    go_wp2
    go_ret
    exact ⟨by simp [b1], rfl⟩

set_option maxRecDepth 100000 in
set_option maxHeartbeats 2000000 in
theorem quoted_any (base bl bc : Nat) (s : ByteArray) (p : Nat) (v : Value) (l : List TokL) (last : Int) (w : World) (h : Sc w base 91 bl bc 0 s p v l last) (hl : l.length ≤ 900000) (F : Fd) (hF : F = tokQuoted ((bs s).drop p)) :
    Calls Tryz.prog 84 #[.pointer (some ⟨bl, 0, none⟩)] w fun e w' =>
      e = .returned (.int .i64 F.err) ∧ Below base w w' ∧ (F.err ≠ 0 → Keep (fun _ => False) w w') ∧ (F.err = 0 → Lays1 base 91 bl bc s w (p + F.len) (l ++ [⟨4, ⟨#[]⟩, F.n, last == ((lineAt s p : Nat) : Int), posA s p⟩]) w') := by
  have hsz := h.hs
  obtain ⟨R0, hR0⟩ : ∃ R0, R0 = s.extract p s.size := ⟨_, rfl⟩
  have hs0 : R0.size = s.size - p := by rw [hR0, ByteArray.size_extract]; omega
  have hb0 : bs R0 = (bs s).drop p := by rw [hR0]; exact bs_tail s p
  have HRS : Hid (∀ W, Keep (fun _ => False) w W → Calls Tryz.prog 80 #[.pointer (some ⟨bl, 0, none⟩)] W fun e w' => e = .returned (.string R0) ∧ Keep (fun _ => False) W w') := fun W hk => by rw [hR0]; exact h.rest hk
  obtain ⟨Q, hQ⟩ : ∃ Q, Q = ([39, 39, 39, 39] : Bs).isPrefixOf (bs R0) := ⟨_, rfl⟩
  have HPF : Hid (∀ W, Calls Tryz.prog 114 #[.string R0, .string ⟨#[39, 39, 39, 39]⟩] W fun e w' => e = .returned (.bool Q) ∧ w' = W) := by
    intro W
    have := hasPrefix_any R0 ⟨#[39, 39, 39, 39]⟩ W
    unfold Lib.hasPrefix at this
    rw [show R0.data.toList = bs R0 from rfl, show (ByteArray.mk #[39, 39, 39, 39]).data.toList = ([39, 39, 39, 39] : Bs) from rfl, ← hQ] at this
    exact this
  rw [← hb0] at hF
  have hp := h.hp
  by_cases hq : Q = true
  · subst hq
    have h4 : 4 ≤ R0.size := by have := prefix_len (hQ.symm); rw [bs_len] at this; simpa using this
    have HF1 : Hid (F = ⟨0, 4, [], 39, 4⟩) := by show F = _; rw [hF]; unfold tokQuoted; rw [if_pos hQ.symm]
    have hp4 : p + 4 ≤ s.size := by omega
    clear hF hQ hs0 hR0 hb0
    go_enter Tryz.func84, Tryz.ntmps84
    go_wp2_with fail
    refine (HRS.out _ (Keep.refl _ _)).mono ?_
    rintro e1 w1 ⟨rfl, hk1⟩
    have hS1 := h.grow hk1
    have HK := Lib.hid hk1
    clear hk1
    go_wp2_with fail
    refine (HPF.out _).mono ?_
    rintro e2 w2 ⟨rfl, rfl⟩
    go_wp2_with fail
    refine (char_any base 91 bl bc s p v l last _ hS1 hl 39 4 hp4).mono ?_
    rintro e4 w4 ⟨rfl, hL4⟩
    have HL4 := Lib.hid hL4
    clear hL4
    go_wp2_with fail
    go_ret
    rw [HF1.out]
    exact ⟨rfl, (HK.out.belowB h.base_le).trans HL4.out.2, (fun h0 => absurd rfl h0), fun _ => ⟨HL4.out.1, (HK.out.belowB h.base_le).trans HL4.out.2⟩⟩
  · have hqf : Q = false := by simpa using hq
    subst hqf
    by_cases h3 : 3 ≤ R0.size
    · have t3 : decide ((3 : Int) ≤ (R0.size : Int)) = true := by simp; omega
      have hi1 : (1 : Int) < (R0.size : Int) := by omega
      have hi2 : (2 : Int) < (R0.size : Int) := by omega
      obtain ⟨c, hc⟩ : ∃ c, c = R0[1]'(by omega) := ⟨_, rfl⟩
      obtain ⟨d, hd⟩ : ∃ d, d = R0[2]'(by omega) := ⟨_, rfl⟩
      have hc1 : ∀ (h : 1 < R0.size), ((R0[1]'h).toNat : Int) = (c.toNat : Int) := fun h => by rw [hc]
      have hd1 : ∀ (h : 2 < R0.size), ((R0[2]'h).toNat : Int) = (d.toNat : Int) := fun h => by rw [hd]
      have hlist : ∃ a r, bs R0 = a :: c :: d :: r := by
        have e1 := bs_get R0 1 (by omega)
        have e2 := bs_get R0 2 (by omega)
        have e0 := bs_len R0
        rw [← hc] at e1
        rw [← hd] at e2
        match hb : bs R0, e1, e2, e0 with
        | a :: x :: y :: r, e1, e2, _ =>
          simp only [List.getElem?_cons_succ, List.getElem?_cons_zero, Option.some.injEq] at e1 e2
          subst e1; subst e2
          exact ⟨a, r, rfl⟩
        | [], e1, _, _ => simp at e1
        | [a], e1, _, _ => simp at e1
        | [a, b], _, e2, _ => simp at e2
      obtain ⟨a, r, hlist⟩ := hlist
      have HFX : Hid (F = if plainB c = true ∧ d = 39 then ⟨0, 4, [], c.toNat, 3⟩ else fail 7) := by
        show F = _; rw [hF]; unfold tokQuoted; rw [if_neg (by rw [← hQ]; decide), hlist]
      have hp3 : p + 3 ≤ s.size := by omega
      obtain ⟨pl, hpl⟩ : ∃ pl, pl = plainB c := ⟨_, rfl⟩
      have HPL : Hid (∀ (n : Int) W, n = (c.toNat : Int) → Calls Tryz.prog 120 #[.int .u8 n] W fun e w' => e = .returned (.bool pl) ∧ w' = W) := fun n W hn => by rw [hn, hpl]; exact plain_any c W
      have HPP := Lib.hid hpl
      have hcl := c.toNat_lt
      have HWR : Hid (IntKind.i64.wrap (c.toNat : Int) = (c.toNat : Int)) := IntWalk.i64_in _ (by omega)
      clear hF hQ hs0 hR0 hb0 hlist hpl hc hd
      by_cases hpt : pl = true
      · subst hpt
        by_cases hd39 : d = 39
        · have td : ((d.toNat : Int) == 39) = true := by subst hd39; rfl
          have HF1 : Hid (F = ⟨0, 4, [], c.toNat, 3⟩) := by show F = _; rw [HFX.out, if_pos ⟨HPP.out.symm, hd39⟩]
          clear hd39
          go_enter Tryz.func84, Tryz.ntmps84
          go_wp2_with fail
          refine (HRS.out _ (Keep.refl _ _)).mono ?_
          rintro e1 w1 ⟨rfl, hk1⟩
          have hS1 := h.grow hk1
          have HK := Lib.hid hk1
          clear hk1
          go_wp2_with fail
          refine (HPF.out _).mono ?_
          rintro e2 w2 ⟨rfl, rfl⟩
          go_wp2_with fail
          refine (HPL.out (c.toNat : Int) _ (Eq.refl _)).mono ?_
          rintro e3 w3 ⟨rfl, rfl⟩
          go_wp2_with fail
          go_region_with (go_at_call 119; rw [HWR.out]; refine (char_any base 91 bl bc s p v l last _ hS1.drew hl (c.toNat : Int) 3 hp3).mono ?_; rintro e4 w4 ⟨rfl, hL4⟩; have HL4 := Lib.hid hL4; clear hL4)
          all_goals
            go_wp2_with fail
            go_ret
            rw [HF1.out]
            exact ⟨rfl, (HK.out.belowB h.base_le).drew.trans HL4.out.2, (fun h0 => absurd rfl h0), fun _ => ⟨HL4.out.1, (HK.out.belowB h.base_le).drew.trans HL4.out.2⟩⟩
        · have td : ((d.toNat : Int) == 39) = false := by
            rw [beq_eq_false_iff_ne]; intro h'; exact hd39 (by apply UInt8.toNat_inj.1; show d.toNat = 39; omega)
          have HF1 : Hid (F = fail 7) := by show F = _; rw [HFX.out, if_neg (fun h' => hd39 h'.2)]
          clear hd39
          go_enter Tryz.func84, Tryz.ntmps84
          go_wp2_with fail
          refine (HRS.out _ (Keep.refl _ _)).mono ?_
          rintro e1 w1 ⟨rfl, hk1⟩
          go_wp2_with fail
          refine (HPF.out _).mono ?_
          rintro e2 w2 ⟨rfl, rfl⟩
          go_wp2_with fail
          refine (HPL.out (c.toNat : Int) _ (Eq.refl _)).mono ?_
          rintro e3 w3 ⟨rfl, rfl⟩
          go_wp2_with fail
          go_ret
          exact ⟨by rw [HF1.out]; rfl, hk1.belowB h.base_le, fun _ => hk1, fun h0 => by rw [HF1.out] at h0; cases h0⟩
      · have hpf : pl = false := by simpa using hpt
        subst hpf
        have HF1 : Hid (F = fail 7) := by show F = _; rw [HFX.out, if_neg (fun h' => by rw [← HPP.out] at h'; cases h'.1)]
        go_enter Tryz.func84, Tryz.ntmps84
        go_wp2_with fail
        refine (HRS.out _ (Keep.refl _ _)).mono ?_
        rintro e1 w1 ⟨rfl, hk1⟩
        go_wp2_with fail
        refine (HPF.out _).mono ?_
        rintro e2 w2 ⟨rfl, rfl⟩
        go_wp2_with fail
        refine (HPL.out (c.toNat : Int) _ (Eq.refl _)).mono ?_
        rintro e3 w3 ⟨rfl, rfl⟩
        go_wp2_with fail
        go_ret
        exact ⟨by rw [HF1.out]; rfl, hk1.belowB h.base_le, fun _ => hk1, fun h0 => by rw [HF1.out] at h0; cases h0⟩
    · have t3 : decide ((3 : Int) ≤ (R0.size : Int)) = false := by simp; omega
      have HF1 : Hid (F = fail 7) := by
        show F = _; rw [hF]; unfold tokQuoted; rw [if_neg (by rw [← hQ]; decide)]
        have e0 := bs_len R0
        match hb : bs R0, e0 with
        | [], _ => rfl
        | [a], _ => rfl
        | [a, b], _ => rfl
        | a :: x :: y :: r, e0 => simp at e0; omega
      clear hF hQ hs0 hR0 hb0
      go_enter Tryz.func84, Tryz.ntmps84
      go_wp2_with fail
      refine (HRS.out _ (Keep.refl _ _)).mono ?_
      rintro e1 w1 ⟨rfl, hk1⟩
      go_wp2_with fail
      refine (HPF.out _).mono ?_
      rintro e2 w2 ⟨rfl, rfl⟩
      go_wp2_with fail
      go_ret
      exact ⟨by rw [HF1.out]; rfl, hk1.belowB h.base_le, fun _ => hk1, fun h0 => by rw [HF1.out] at h0; cases h0⟩
end Go.Proofs.YtgmmjhelcpgakaaGreatDoor
/- Package lexpas: next. -/
namespace Go.Proofs.YtgmmjhelcpgakaaGreatDoor
open Go.RowKit
set_option linter.unusedVariables false
set_option linter.unusedSimpArgs false

def letterSet : ByteArray := ⟨#[97, 98, 99, 100, 101, 102, 103, 104, 105, 106, 107, 108, 109, 110, 111, 112, 113, 114, 115, 116, 117, 118, 119, 120, 121, 122, 65, 66, 67, 68, 69, 70, 71, 72, 73, 74, 75, 76, 77, 78, 79, 80, 81, 82, 83, 84, 85, 86, 87, 88, 89, 90]⟩
set_option maxRecDepth 100000 in
theorem inLetter (c : UInt8) : (bs letterSet).contains c = letterB c := by
  have h : ∀ k : Fin 256, (bs letterSet).contains (UInt8.ofNat k.val) = letterB (UInt8.ofNat k.val) := by decide +kernel
  have := h ⟨c.toNat, c.toNat_lt⟩
  simpa using this
def intFd (R : Option Nat) (k : Nat) : Fd := match R with | some n => ⟨0, 3, [], n, k⟩ | none => fail 6
theorem tokInt_eq (l : Bs) : tokInt l = intFd (numGo 0 (l.take (spanLen digB l))) (spanLen digB l) := rfl
def PlainPost (base bl bc : Nat) (s : ByteArray) (p : Nat) (l : List TokL) (last : Int) (w : World) (F : Fd) (e : Ending) (w' : World) : Prop :=
  e = .returned (.int .i64 F.err) ∧ Below base w w' ∧ (F.err ≠ 0 → Keep (· = bc) w w') ∧ (F.err = 0 → Lays1 base 91 bl bc s w (p + F.len) (l ++ [⟨F.kind, ⟨F.text.toArray⟩, F.n, last == ((lineAt s p : Nat) : Int), posA s p⟩]) w')
theorem getD_signs (g : Bs) (i : Nat) (hi : i < 18) (h : pasSigns[i]? = some g) : pasSigns.getD i [] = g := by
  rw [List.getD_eq_getElem?_getD, h]; rfl
def signCells : Array Value := (pasSigns.map fun g => Value.string ⟨g.toArray⟩).toArray
theorem signCells_at (j : Nat) (h : j < 18) : signCells[j]? = some (.string ⟨(pasSigns.getD j []).toArray⟩) := by
  unfold signCells
  have : j < pasSigns.length := h
  simp [List.getElem?_eq_getElem this, List.getD_eq_getElem?_getD]

set_option maxRecDepth 100000 in
set_option maxHeartbeats 4000000 in
theorem next_any' (base bl bc : Nat) (s : ByteArray) (p : Nat) (v : Value) (l : List TokL) (last : Int) (w : World) (h : Sc w base 91 bl bc 0 s p v l last) (hl : l.length ≤ 900000) (hg : Glob base w) (hp : p < s.size) (c : UInt8) (hc : c = s[p]) (F : Fd) (hF : F = tokPlain ((bs s).drop p)) :
    Calls Tryz.prog 46 #[.pointer (some ⟨bl, 0, none⟩), .int .u8 (c.toNat : Int)] w (PlainPost base bl bc s p l last w F) := by
  have hdr := bs_drop s p hp
  rw [← hc] at hdr
  have hFx : F = if letterB c = true then tokName ((bs s).drop p) else if digB c = true then tokInt ((bs s).drop p) else if c = 39 then tokQuoted ((bs s).drop p) else if c = 35 then tokNumbered ((bs s).drop p) else tokSign ((bs s).drop p) := by
    rw [hF, hdr]; rfl
  obtain ⟨iv, hiv⟩ : ∃ iv : Int, iv = Lib.indexByte (bs letterSet) c := ⟨_, rfl⟩
  obtain ⟨tv, htv⟩ : ∃ tv : Int, tv = Lib.indexByte (bs tenSet) c := ⟨_, rfl⟩
  have HIL : Hid (∀ W, Calls Tryz.prog 77 #[.string letterSet, .int .u8 (c.toNat : Int)] W fun e w' => e = .returned (.int .i64 iv) ∧ w' = W) := fun W => by rw [hiv]; exact indexByte_at letterSet c W
  have HIT : Hid (∀ W, Calls Tryz.prog 77 #[.string tenSet, .int .u8 (c.toNat : Int)] W fun e w' => e = .returned (.int .i64 tv) ∧ w' = W) := fun W => by rw [htv]; exact indexByte_at tenSet c W
  have hqa := fun (k : Nat) (a : UInt8) (hk : a.toNat = k) (hne : c ≠ a) => (show ((c.toNat : Int) == (k : Int)) = false by rw [beq_eq_false_iff_ne]; intro h'; exact hne (by apply UInt8.toNat_inj.1; omega))
  unfold letterSet at HIL
  unfold tenSet at HIT
  by_cases h1 : letterB c = true
  · rw [if_pos h1] at hFx
    have hi : 0 ≤ iv := by rw [hiv]; exact indexByte_pos (bs letterSet) c (by rw [inLetter]; exact h1)
    have hti : decide (0 ≤ iv) = true := by simpa using hi
    clear hiv htv
    have HFX := Lib.hid hFx
    clear hF hFx hqa h1 hdr hc
    by_cases h32 : spanAt nameB s p ≤ 32
    · have HF1 : Hid (F = ⟨0, if isWord (nameAt s p) then 2 else 1, nameAt s p, 0, spanAt nameB s p⟩) := by
        show F = _; rw [HFX.out]; unfold tokName; rw [if_pos (show spanLen nameB ((bs s).drop p) ≤ 32 from h32)]; rfl
      have HN := Lib.hid (name_ok base bl bc s p v l last w h hl hg h32)
      clear h32
      go_enter Tryz.func46, Tryz.ntmps46
      go_wp2_with fail
      refine (HIL.out _).mono ?_
      rintro e1 w1 ⟨rfl, rfl⟩
      go_wp2_with fail
      refine HN.out.mono ?_
      rintro e2 w2 ⟨rfl, hL⟩
      have HL := Lib.hid hL
      clear hL
      go_wp2_with fail
      go_ret
      unfold PlainPost
      rw [HF1.out]
      exact ⟨rfl, HL.out.2, (fun h0 => absurd rfl h0), fun _ => HL.out⟩
    · have HF1 : Hid (F = fail 3) := by
        show F = _; rw [HFX.out]; unfold tokName; rw [if_neg (show ¬ spanLen nameB ((bs s).drop p) ≤ 32 from h32)]
      have HN := Lib.hid (name_long base bl bc s p v l last w h (by omega))
      clear h32
      go_enter Tryz.func46, Tryz.ntmps46
      go_wp2_with fail
      refine (HIL.out _).mono ?_
      rintro e1 w1 ⟨rfl, rfl⟩
      go_wp2_with fail
      refine HN.out.mono ?_
      rintro e2 w2 ⟨rfl, hL⟩
      go_wp2_with fail
      go_ret
      unfold PlainPost
      rw [HF1.out]
      exact ⟨rfl, hL.below h.base_le (fun k hk => by rw [hk]; exact h.hbc), fun _ => hL, fun h0 => by cases h0⟩
  · rw [if_neg h1] at hFx
    have hi : iv = -1 := by rw [hiv]; exact indexByte_neg (bs letterSet) c (by rw [inLetter]; simpa using h1)
    have hti : decide (0 ≤ iv) = false := by rw [hi]; rfl
    clear hiv hi
    by_cases h2 : digB c = true
    · rw [if_pos h2] at hFx
      have hi2 : 0 ≤ tv := by rw [htv]; exact indexByte_pos (bs tenSet) c (by rw [ten_has]; exact h2)
      have hti2 : decide (0 ≤ tv) = true := by simpa using hi2
      clear htv
      have hsp : 0 < spanAt digB s p := by
        unfold spanAt spanLen; rw [hdr, List.takeWhile_cons_of_pos h2]; simp
      obtain ⟨R, hR⟩ : ∃ R, R = numAt s p := ⟨_, rfl⟩
      have hR2 : R = numGo 0 (((bs s).drop p).take (spanLen digB ((bs s).drop p))) := by rw [hR]; unfold numAt; rw [take_of_ext]; rfl
      have HN := Lib.hid (int_any base 91 bl bc s p v l last w h hl hsp R hR)
      have HF1 : Hid (F = intFd R (spanAt digB s p)) := by
        show F = _; rw [hFx, tokInt_eq, ← hR2]; rfl
      clear hF hFx hqa h1 h2 hdr hc hR hR2
      go_enter Tryz.func46, Tryz.ntmps46
      go_wp2_with fail
      refine (HIL.out _).mono ?_
      rintro e1 w1 ⟨rfl, rfl⟩
      go_wp2_with fail
      refine (HIT.out _).mono ?_
      rintro e1 w1 ⟨rfl, rfl⟩
      go_wp2_with fail
      refine HN.out.mono ?_
      rintro e2 w2 ⟨rfl, hB, hKN, hL⟩
      have HL := Lib.hid hL
      have HKN := Lib.hid hKN
      clear hL hKN
      go_wp2_with fail
      go_ret
      unfold PlainPost
      rw [HF1.out]
      cases R with
      | none => exact ⟨rfl, hB, fun _ => HKN.out rfl, fun h0 => by cases h0⟩
      | some n => exact ⟨rfl, hB, (fun h0 => absurd rfl h0), fun _ => HL.out n rfl⟩
    · rw [if_neg h2] at hFx
      have hi2 : tv = -1 := by rw [htv]; exact indexByte_neg (bs tenSet) c (by rw [ten_has]; simpa using h2)
      have hti2 : decide (0 ≤ tv) = false := by rw [hi2]; rfl
      clear htv hi2
      by_cases h3 : c = 39
      · rw [if_pos h3] at hFx
        have t3 : ((c.toNat : Int) == 39) = true := by subst h3; rfl
        have HN := Lib.hid (quoted_any base bl bc s p v l last w h hl F hFx)
        have hkt : F.err = 0 → F.kind = 4 ∧ F.text = [] := by
          rw [hFx]; unfold tokQuoted
          split
          · intro _; exact ⟨rfl, rfl⟩
          · split
            · split
              · intro _; exact ⟨rfl, rfl⟩
              · intro h0; cases h0
            · intro h0; cases h0
        have HKT := Lib.hid hkt
        clear hF hFx hqa h1 h2 h3 hdr hc hkt
        go_enter Tryz.func46, Tryz.ntmps46
        go_wp2_with fail
        refine (HIL.out _).mono ?_
        rintro e1 w1 ⟨rfl, rfl⟩
        go_wp2_with fail
        refine (HIT.out _).mono ?_
        rintro e1 w1 ⟨rfl, rfl⟩
        go_wp2_with fail
        refine HN.out.mono ?_
        rintro e2 w2 ⟨rfl, hB, hKN, hL⟩
        have HL := Lib.hid hL
        have HKN := Lib.hid hKN
        clear hL hKN
        go_wp2_with fail
        go_ret
        unfold PlainPost
        refine ⟨rfl, hB, fun h0 => (HKN.out h0).mono (fun _ _ h => h.elim), fun h0 => ?_⟩
        have := HL.out h0
        rw [(HKT.out h0).1, (HKT.out h0).2]
        exact this
      · rw [if_neg h3] at hFx
        have t3 : ((c.toNat : Int) == 39) = false := hqa 39 39 rfl h3
        by_cases h4 : c = 35
        · rw [if_pos h4] at hFx
          have t4 : ((c.toNat : Int) == 35) = true := by subst h4; rfl
          have HN := Lib.hid (numbered_any base bl bc s p v l last w h hl hg hp _ rfl F hFx)
          have hkt : F.err = 0 → F.kind = 4 ∧ F.text = [] := by
            rw [hFx]; unfold tokNumbered
            split
            · intro h0; cases h0
            · split
              · split
                · intro h0; cases h0
                · intro _; exact ⟨rfl, rfl⟩
              · intro h0; cases h0
          have HKT := Lib.hid hkt
          clear hF hFx hqa h1 h2 h3 h4 hdr hc hkt
          go_enter Tryz.func46, Tryz.ntmps46
          go_wp2_with fail
          refine (HIL.out _).mono ?_
          rintro e1 w1 ⟨rfl, rfl⟩
          go_wp2_with fail
          refine (HIT.out _).mono ?_
          rintro e1 w1 ⟨rfl, rfl⟩
          go_wp2_with fail
          refine HN.out.mono ?_
          rintro e2 w2 ⟨rfl, hB, hKN, hL⟩
          have HL := Lib.hid hL
          have HKN := Lib.hid hKN
          clear hL hKN
          go_wp2_with fail
          go_ret
          unfold PlainPost
          refine ⟨rfl, hB, fun h0 => (HKN.out h0).mono (fun _ _ h => h.elim), fun h0 => ?_⟩
          have := HL.out h0
          rw [(HKT.out h0).1, (HKT.out h0).2]
          exact this
        · rw [if_neg h4] at hFx
          have t4 : ((c.toNat : Int) == 35) = false := hqa 35 35 rfl h4
          have hB1 := Blk.new w signCells 9
          have hK1 : Keep (fun _ => False) w (w.alloc (.cells signCells 9)) := (Keep.refl _ w).alloc _
          have hS1 := h.grow hK1
          have hcl : ∀ j, j < 18 → (w.alloc (.cells signCells 9)).cell? ⟨w.heap.size, j, none⟩ = some (.string ⟨(pasSigns.getD j []).toArray⟩) := fun j hj => hB1.at_ j (signCells_at j hj)
          have HB := Lib.hid (hK1.belowB h.base_le)
          have HKX := Lib.hid hK1
          have HBS := Lib.hid (show base ≤ (w.alloc (.cells signCells 9)).heap.size from Nat.le_trans h.base_le hK1.size)
          cases hsg : signOf pasSigns ((bs s).drop p) with
          | none =>
            have hno : ∀ j, j < 18 → (pasSigns.getD j []).isPrefixOf ((bs s).drop p) = false := by
              intro j hj
              have hj' : j < pasSigns.length := hj
              have h5 := List.find?_eq_none.1 hsg (pasSigns[j]) (List.getElem_mem hj')
              rw [getD_signs pasSigns[j] j hj (List.getElem?_eq_getElem hj')]
              exact Bool.eq_false_iff.2 h5
            have HN := Lib.hid (sign_none base 91 bl bc s p v l last _ hS1 pasSigns w.heap.size 18 18 (by decide) hcl hno)
            have HF1 : Hid (F = fail 5) := by show F = _; rw [hFx]; unfold tokSign; rw [hsg]
            unfold signCells pasSigns at HN
            clear hF hFx hqa h1 h2 h3 h4 hdr hc hsg hno hcl hS1 hK1 hB1
            go_enter Tryz.func46, Tryz.ntmps46
            go_wp2_with fail
            refine (HIL.out _).mono ?_
            rintro e1 w1 ⟨rfl, rfl⟩
            go_wp2_with fail
            refine (HIT.out _).mono ?_
            rintro e1 w1 ⟨rfl, rfl⟩
            go_wp2_with fail
            refine HN.out.mono ?_
            rintro e2 w2 ⟨rfl, hk2⟩
            go_wp2_with fail
            go_ret
            unfold PlainPost
            rw [HF1.out]
            exact ⟨rfl, HB.out.trans (hk2.belowB HBS.out), fun _ => (HKX.out.trans hk2).mono (fun _ _ h => h.elim), fun h0 => by cases h0⟩
          | some g =>
            obtain ⟨i, hi, hgi, hpi, hbef⟩ : ∃ i, i < 18 ∧ pasSigns.getD i [] = g ∧ g.isPrefixOf ((bs s).drop p) = true ∧ ∀ j, j < i → (pasSigns.getD j []).isPrefixOf ((bs s).drop p) = false := by
              obtain ⟨hg1, i, hil, hi1, hi2⟩ := List.find?_eq_some_iff_getElem.1 hsg
              refine ⟨i, hil, ?_, hg1, fun j hj => ?_⟩
              · exact getD_signs g i hil (by rw [List.getElem?_eq_getElem hil, hi1])
              · have hj' : j < pasSigns.length := Nat.lt_trans hj hil
                have h5 := hi2 j hj
                rw [getD_signs pasSigns[j] j hj' (List.getElem?_eq_getElem hj')]
                exact Bool.not_eq_true'  _ |>.mp h5
            have HN := Lib.hid (sign_some base 91 bl bc s p v l last _ hS1 pasSigns w.heap.size 18 18 (by decide) hcl i hi (by rw [hgi]; exact hpi) hbef hl)
            rw [hgi] at HN
            have HF1 : Hid (F = ⟨0, 5, g, 0, g.length⟩) := by show F = _; rw [hFx]; unfold tokSign; rw [hsg]
            unfold signCells pasSigns at HN
            clear hF hFx hqa h1 h2 h3 h4 hdr hc hsg hbef hcl hS1 hK1 hB1 hgi hpi hi
            go_enter Tryz.func46, Tryz.ntmps46
            go_wp2_with fail
            refine (HIL.out _).mono ?_
            rintro e1 w1 ⟨rfl, rfl⟩
            go_wp2_with fail
            refine (HIT.out _).mono ?_
            rintro e1 w1 ⟨rfl, rfl⟩
            go_wp2_with fail
            refine HN.out.mono ?_
            rintro e2 w2 ⟨rfl, hL⟩
            have HL := Lib.hid hL
            clear hL
            go_wp2_with fail
            go_ret
            unfold PlainPost
            rw [HF1.out]
            exact ⟨rfl, HB.out.trans HL.out.2, (fun h0 => absurd rfl h0), fun _ => ⟨HL.out.1, HB.out.trans HL.out.2⟩⟩
end Go.Proofs.YtgmmjhelcpgakaaGreatDoor
