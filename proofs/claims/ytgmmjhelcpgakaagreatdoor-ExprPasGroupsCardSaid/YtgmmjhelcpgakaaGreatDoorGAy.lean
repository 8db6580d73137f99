/- The reference's All, at Pas: it answers lexAll. -/
import Derived.Test.YtgmmjhelcpgakaaGreatDoorGK
import Derived.Test.YtgmmjhelcpgakaaGreatDoorGAx
import Derived.RegionTactic
import Derived.StillTailTactics
import Derived.Outline
namespace Go.Proofs.YtgmmjhelcpgakaaGreatDoor
open Go.RowKit
set_option linter.unusedVariables false
set_option linter.unusedSimpArgs false

theorem refFirst_any (s : ByteArray) (w : World) (hs : s.size ≤ 140737488351232) (h0 : 0 < s.size) :
    Calls Tryz.prog 39 #[.int .i64 0, .string s] w (FirstPost w (tokOf (bs s))) := by
  cases h : noteBegins (bs s) with
  | true => exact refFirst_note s w hs h
  | false => exact refFirst_plain s w hs h0 h
def posC (s : ByteArray) (p : Nat) : Array Value := #[.int .i64 p, .int .i64 (lineAt s p), .int .i64 (colAt s p)]
theorem refStep_at (s : ByteArray) (j : Nat) (h : j < s.size) (hs : s.size ≤ 140737488351232) (n : Int) (hn : n = (s[j].toNat : Int)) (w : World) :
    Calls Tryz.prog 38 #[.agg #[.int .i64 j, .int .i64 (lineAt s j), .int .i64 (colAt s j)], .int .u8 n] w fun e w' =>
      e = .returned (.agg (posC s (j + 1))) ∧ Keep (fun _ => False) w w' := by
  have h1 := lineAt_le s j
  have h2 := colAt_le s j
  refine (refStep_any j (lineAt s j) (colAt s j) s[j] n hn w (by omega) (by omega) (by omega)).mono ?_
  rintro e w' ⟨rfl, hk⟩
  refine ⟨?_, hk⟩
  unfold posC
  rw [lineAt_succ s j h, colAt_succ s j h]
  by_cases h3 : s[j] = 10
  · rw [if_pos h3, if_pos h3, if_pos h3]; rfl
  · rw [if_neg h3, if_neg h3, if_neg h3]; rfl
def posOf (w : World) (b : Nat) : Nat := match w.cell? ⟨b, 0, none⟩ with | some (.int _ n) => n.toNat | _ => 0
theorem posOf_of {w : World} {b : Nat} {s : ByteArray} {p : Nat} (h : Blk w b (posC s p) 28) : posOf w b = p := by
  unfold posOf; rw [h.at_ 0 (v := .int .i64 p) rfl]; rfl
theorem posBlk {w : World} {b : Nat} {s : ByteArray} {j : Nat} (h : Blk w b (posC s j) 28) :
    Blk (((w.setCell ⟨b, 0, none⟩ (.int .i64 ((j : Int) + 1))).setCell ⟨b, 1, none⟩ (.int .i64 (lineAt s (j + 1)))).setCell ⟨b, 2, none⟩ (.int .i64 (colAt s (j + 1)))) b (posC s (j + 1)) 28 := by
  have := ((h.set 0 (.int .i64 ((j : Int) + 1))).set 1 (.int .i64 (lineAt s (j + 1)))).set 2 (.int .i64 (colAt s (j + 1)))
  simpa [posC] using this
theorem posKeep {w w1 : World} {b : Nat} (h : Keep (· = b) w w1) (x y z : Value) : Keep (· = b) w (((w1.setCell ⟨b, 0, none⟩ x).setCell ⟨b, 1, none⟩ y).setCell ⟨b, 2, none⟩ z) := ((h.set1 0 x).set1 1 y).set1 2 z
def RefAllPost (w : World) (R : LexR) (e : Ending) (w' : World) : Prop :=
  ∃ v, e = .returned (.tuple #[v, diagV R.code R.pos]) ∧ OwnToks w' w.heap.size v R.toks ∧ Keep (fun _ => False) w w'

theorem tokOf_kind (l : Bs) (h : (tokOf l).err = 0) : 0 < (tokOf l).kind := by
  unfold tokOf at *
  by_cases h1 : noteBegins l = true
  · rw [if_pos h1] at h ⊢
    by_cases h2 : (noteRead l).2.2 = 0
    · rw [if_pos h2]; show 0 < 6; decide
    · rw [if_neg h2] at h; exact absurd h h2
  · rw [if_neg h1] at h ⊢
    match l, h with
    | [], h => cases h
    | c :: r, h =>
      unfold tokPlain at *
      simp only at h ⊢
      by_cases h1 : letterB c = true
      · rw [if_pos h1] at h ⊢
        unfold tokName at *
        by_cases h2 : spanLen nameB (c :: r) ≤ 32
        · rw [if_pos h2]; show 0 < (if _ then 2 else 1); split <;> decide
        · rw [if_neg h2] at h; cases h
      rw [if_neg h1] at h ⊢
      by_cases h2 : digB c = true
      · rw [if_pos h2] at h ⊢
        unfold tokInt at *
        cases hn : numGo 0 ((c :: r).take (spanLen digB (c :: r))) with
        | none => rw [hn] at h; cases h
        | some n => show 0 < 3; decide
      rw [if_neg h2] at h ⊢
      by_cases h3 : c = 39
      · rw [if_pos h3] at h ⊢; rw [tokQuoted_kind _ h]; decide
      rw [if_neg h3] at h ⊢
      by_cases h4 : c = 35
      · rw [if_pos h4] at h ⊢; rw [tokNumbered_kind _ h]; decide
      rw [if_neg h4] at h ⊢
      unfold tokSign at *
      cases hn : signOf pasSigns (c :: r) with
      | none => rw [hn] at h; cases h
      | some n => show 0 < 5; decide

set_option maxRecDepth 100000 in
set_option maxHeartbeats 8000000 in
theorem refAll_any (s : ByteArray) (w : World) (hs : s.size ≤ 140737488351232) :
    Calls Tryz.prog 17 #[.int .i64 0, .string s] w (RefAllPost w (lexAll s)) := by
  obtain ⟨R, hR⟩ : ∃ R, R = lexAll s := ⟨_, rfl⟩
  rw [← hR]
  have hu28 := Tryz.underlying30
  have hu26 := Tryz.underlying28
  have hu38 := Tryz.underlying50
  have hu61 := Tryz.underlying83
  by_cases hbig : 65536 < s.size
  · have ht : decide ((65536 : Int) < (s.size : Int)) = true := by simp; omega
    have HR : Hid (R = ⟨[], 3, (0, 0, 0)⟩) := by show R = _; rw [hR]; unfold lexAll; rw [if_pos hbig]
    clear hR hbig
    go_enter Tryz.func17, Tryz.ntmps17
    go_wp2_with fail
    refine bodyPost_ret (v := .tuple #[.slice none 0 0, .agg #[.int .i64 3, .int .i64 0, .int .i64 0, .int .i64 0]]) (by simp [results, Tryz.results17, go_sem]) rfl ?_
    unfold RefAllPost
    rw [HR.out]
    exact ⟨_, rfl, World.ownsRow_nil _ _ _ _, (Keep.refl (fun _ => False) w).alloc _⟩
  · have ht : decide ((65536 : Int) < (s.size : Int)) = false := by simp; omega
    have HR : Hid (R = lexGo s (s.size + 1) 0 (-1) []) := by show R = _; rw [hR]; unfold lexAll; rw [if_neg hbig]
    have hsm : s.size ≤ 65536 := by omega
    clear hR hbig
    go_enter Tryz.func17, Tryz.ntmps17
    go_wp2_with fail
    obtain ⟨W, hW⟩ : ∃ W, W = (w.alloc (.cells #[.int .i64 0, .int .i64 0, .int .i64 0, .int .i64 0] 30)).alloc (.cells #[.int .i64 0, .int .i64 0, .int .i64 0] 28) := ⟨_, rfl⟩
    rw [← hW]
    obtain ⟨bA, hbA⟩ : ∃ bA, bA = w.heap.size + 1 := ⟨_, rfl⟩
    rw [← hbA]
    have HBD : Hid (Blk W w.heap.size #[.int .i64 0, .int .i64 0, .int .i64 0, .int .i64 0] 30) := by show Blk _ _ _ _; rw [hW]; exact (Blk.new _ _ _).alloc _
    have HBP : Hid (Blk W bA (posC s 0) 28) := by show Blk _ _ _ _; rw [hW, hbA]; exact Blk.new2 _ _ _
    have HKW : Hid (Keep (fun _ => False) w W) := by show Keep _ _ _; rw [hW]; exact ((Keep.refl _ w).alloc _).alloc _
    have hWs : bA < W.heap.size := Blk.lt HBP.out
    have HbA := Lib.hid hbA
    have hbA1 : w.heap.size < bA := by omega
    clear hW hbA
    go_loopw [6, 8] (fun o la wr => ∃ (p : Nat) (l : List TokL) (last : Int) (f : Nat), la = .int .i64 last ∧ -1 ≤ last ∧ last ≤ s.size ∧ Blk wr bA (posC s p) 28 ∧ OwnToks wr W.heap.size o l ∧ Keep (· = bA) W wr ∧ Hid (lexGo s f p last l = R) ∧ p ≤ s.size ∧ s.size - p < f ∧ l.length ≤ p) (fun _ _ wr => s.size - posOf wr bA)
    case atStart => exact ⟨0, [], -1, s.size + 1, rfl, by omega, by omega, HBP.out, World.ownsRow_nil _ _ _ _, Keep.refl _ _, HR.out.symm, by omega, by omega, by simp⟩
    case round =>
      obtain ⟨p, l, last, f, rfl, hl1, hl2, hpos, hown, hkp, HG, hp, hf, hlp⟩ := hrel
      obtain ⟨oA, oc, rfl⟩ := OwnToks.form hown
      obtain ⟨f, rfl⟩ : ∃ m, f = m + 1 := ⟨f - 1, by omega⟩
      have hG := HG.out
      rw [lexGo] at hG
      obtain ⟨q, hq⟩ : ∃ q, q = p + spanAt blankB s p := ⟨_, rfl⟩
      have hqs : q ≤ s.size := by rw [hq]; exact spanAt_le blankB s p hp
      have hpq : p ≤ q := by omega
      rw [← hq] at hG
      obtain ⟨wp, hwp⟩ : ∃ wp : World, wp = wr := ⟨_, rfl⟩
      have HQ := Lib.hid hq
      have HGG := Lib.hid hG
      have HPOS := Lib.hid hpos
      have HOWN := Lib.hid hown
      have HKP := Lib.hid hkp
      clear hq hG HG hpos hown hkp
      subst hwp
      go_wp2_with fail
      go_loopw [18] (fun _ wr => ∃ j : Nat, p ≤ j ∧ j ≤ q ∧ Blk wr bA (posC s j) 28 ∧ Keep (· = bA) wp wr) (fun _ wr => q - posOf wr bA)
      case atStart => exact ⟨p, Nat.le_refl _, hpq, HPOS.out, Keep.refl _ _⟩
      case round =>
        obtain ⟨j, hj1, hj2, hpj, hkj⟩ := hrel
        have HPJ := Lib.hid hpj
        have HKJ := Lib.hid hkj
        have HMJ := Lib.hid (posOf_of hpj)
        clear hpj hkj
        have a0 := HPJ.out.at_ 0 (v := .int .i64 j) rfl
        have a1 := HPJ.out.at_ 1 (v := .int .i64 (lineAt s j)) rfl
        have a2 := HPJ.out.at_ 2 (v := .int .i64 (colAt s j)) rfl
        by_cases hjs : j < s.size
        · obtain ⟨c, hc⟩ : ∃ c, c = s[j] := ⟨_, rfl⟩
          have hix : ∀ (h : j < s.size), ((s[j]'h).toNat : Int) = (c.toNat : Int) := fun h => by rw [hc]
          have j0 : (0 : Int) ≤ (j : Int) := by omega
          have j1 : (j : Int) < (s.size : Int) := by omega
          have HHAS : Hid (∀ W, Calls Tryz.prog 37 #[.string ⟨#[32, 9, 13, 10]⟩, .int .u8 (c.toNat : Int)] W fun e w' => e = .returned (.bool (blankB c)) ∧ w' = W) := by
            intro W
            have := refHas_any ⟨#[32, 9, 13, 10]⟩ c _ rfl (by decide) W
            rw [show (bs ⟨#[32, 9, 13, 10]⟩).contains c = blankB c from congrFun inBlank c] at this
            exact this
          have HST : Hid (∀ W, Calls Tryz.prog 38 #[.agg #[.int .i64 j, .int .i64 (lineAt s j), .int .i64 (colAt s j)], .int .u8 (c.toNat : Int)] W fun e w' => e = .returned (.agg (posC s (j + 1))) ∧ Keep (fun _ => False) W w') := fun W => refStep_at s j hjs hs _ (by rw [hc]) W
          have hin : j < q → blankB c = true := fun h => by
            rw [hc]
            have h1 := HQ.out
            have h2 := spanAt_in blankB s p (j - p) (by omega) (by omega)
            have e1 : p + (j - p) = j := by omega
            simp only [e1] at h2
            exact h2
          have hout : j = q → blankB c = false := fun h => by
            rw [hc]
            have h1 := HQ.out
            have e1 : p + spanAt blankB s p = j := by omega
            have h2 := spanAt_stop blankB s p (by omega)
            simp only [e1] at h2
            exact h2
          clear hc
          by_cases hjq : j < q
          · have hbl := Lib.hid (hin hjq)
            clear hin hout
            go_wp2_with fail
            refine (HHAS.out _).mono ?_
            rintro e w2 ⟨rfl, rfl⟩
            rw [hbl.out]
            go_wp2_with fail
            go_still_tail 5, (by kernel_rfl)
            change wpList _ _ _ _ _ (World.drew _)
            obtain ⟨w3, hw3⟩ : ∃ w3, w3 = World.drew w2 := ⟨_, rfl⟩
            rw [← hw3]
            have HP3 : Hid (Blk w3 bA (posC s j) 28) := by show Blk _ _ _ _; rw [hw3]; exact HPJ.out
            have HK3 : Hid (Keep (fun _ => False) w2 w3) := by show Keep _ _ _; rw [hw3]; exact (Keep.refl _ _).drew
            clear hw3 a0 a1 a2
            go_wp2_with fail
            refine (HST.out _).mono ?_
            rintro e w4 ⟨rfl, hk4⟩
            have HP4 := Lib.hid (hk4.blk HP3.out (fun h => h))
            have HK4 := Lib.hid (HK3.out.trans hk4)
            clear hk4 HK3 HP3
            have a0 := HP4.out.at_ 0 (v := .int .i64 j) rfl
            have a1 := HP4.out.at_ 1 (v := .int .i64 (lineAt s (j))) rfl
            have a2 := HP4.out.at_ 2 (v := .int .i64 (colAt s (j))) rfl
            have f0 := HP4.out.free 0
            have f1 := HP4.out.free 1
            have f2 := HP4.out.free 2
            unfold posC
            go_wp2_with fail
            have hB5 := posBlk HP4.out
            refine ⟨⟨j + 1, by omega, by omega, hB5, posKeep (HKJ.out.trans (HK4.out.mono (fun _ _ h => h.elim))) _ _ _⟩, ?_⟩
            rw [posOf_of hB5, HMJ.out]
            omega
          · obtain rfl : j = q := by omega
            have hbl := Lib.hid (hout rfl)
            clear hin hout
            have hG := HGG.out
            rw [if_pos hjs] at hG
            obtain ⟨T, hT⟩ : ∃ T, T = s.extract j s.size := ⟨_, rfl⟩
            have hTb : bs T = (bs s).drop j := by rw [hT]; exact bs_tail s j
            have hTs : T.size = s.size - j := by rw [hT, ByteArray.size_extract]; omega
            obtain ⟨F, hF⟩ : ∃ F, F = tokOf (bs T) := ⟨_, rfl⟩
            rw [← hTb, ← hF] at hG
            have HFI : Hid (∀ W, Calls Tryz.prog 39 #[.int .i64 0, .string T] W (FirstPost W F)) := fun W => by rw [hF]; exact refFirst_any T W (by omega) (by omega)
            have hTe := hT.symm
            have HF := Lib.hid hF
            have HTB := Lib.hid hTb
            have HTS := Lib.hid hTs
            have HGF := Lib.hid hG
            have jle : (j : Int) ≤ (s.size : Int) := by omega
            clear hT hTb hTs hF hG
            go_wp2_with fail
            refine (HHAS.out _).mono ?_
            rintro e w2 ⟨rfl, rfl⟩
            rw [hbl.out]
            have hlA := Blk.lt HPJ.out
            have nbA : bA ≠ w2.heap.size := by omega
            go_wp2_with fail
            obtain ⟨w3, hw3⟩ : ∃ w3, w3 = w2.alloc (.cells #[.int .i64 0, .string ⟨#[]⟩, .int .i64 0, .bool false, .int .i64 0, .int .i64 0, .int .i64 0] 50) := ⟨_, rfl⟩
            rw [← hw3]
            obtain ⟨bT, hbT⟩ : ∃ bT, bT = w2.heap.size := ⟨_, rfl⟩
            rw [← hbT]
            have HTK3 : Hid (Blk w3 bT #[.int .i64 0, .string ⟨#[]⟩, .int .i64 0, .bool false, .int .i64 0, .int .i64 0, .int .i64 0] 50) := by show Blk _ _ _ _; rw [hw3, hbT]; exact Blk.new _ _ _
            have HK3 : Hid (Keep (fun _ => False) w2 w3) := by show Keep _ _ _; rw [hw3]; exact (Keep.refl _ _).alloc _
            have hAT : bA ≠ bT := by
              have h1 := Blk.lt HPJ.out
              omega
            have HBT := Lib.hid hbT
            clear hw3 hbT a0 a1 a2
            have HP3 := Lib.hid (HK3.out.blk HPJ.out (fun h => h))
            have a0 := HP3.out.at_ 0 (v := .int .i64 j) rfl
            have a1 := HP3.out.at_ 1 (v := .int .i64 (lineAt s j)) rfl
            have a2 := HP3.out.at_ 2 (v := .int .i64 (colAt s j)) rfl
            go_wp2_with fail
            refine (HFI.out _).mono ?_
            rintro e w4 ⟨⟨v, rfl, F', rfl, hFe, hFF⟩, hk4⟩
            have HP4 := Lib.hid ((HK3.out.trans hk4).blk HPJ.out (fun h => h))
            have HTK4 := Lib.hid (hk4.blk HTK3.out (fun h => h))
            have HK4 := Lib.hid (HK3.out.trans hk4)
            have HFE := Lib.hid hFe
            have HFF := Lib.hid hFF
            clear hk4 HK3 hFe hFF
            unfold foundV foundC
            clear a0 a1 a2
            have a0 := HP4.out.at_ 0 (v := .int .i64 j) rfl
            have a1 := HP4.out.at_ 1 (v := .int .i64 (lineAt s j)) rfl
            have a2 := HP4.out.at_ 2 (v := .int .i64 (colAt s j)) rfl
            by_cases hE : F.err = 0
            · have hFF := HFF.out hE
              have HE := Lib.hid hE
              subst hFF
              have te : ((F'.err : Int) != 0) = false := by rw [hE]; rfl
              clear hE
              go_wp2_with fail
              obtain ⟨w5, hw5⟩ : ∃ w5, w5 = w4.alloc (.cells #[.int .i64 F'.kind, .string ⟨F'.text.toArray⟩, .int .i64 F'.n, .bool false, .int .i64 0, .int .i64 0, .int .i64 0, .int .i64 F'.len, .int .i64 F'.err] 83) := ⟨_, rfl⟩
              rw [← hw5]
              obtain ⟨bF, hbF⟩ : ∃ bF, bF = w4.heap.size := ⟨_, rfl⟩
              rw [← hbF]
              have HFO := Lib.hid (show Blk w5 bF #[.int .i64 F'.kind, .string ⟨F'.text.toArray⟩, .int .i64 F'.n, .bool false, .int .i64 0, .int .i64 0, .int .i64 0, .int .i64 F'.len, .int .i64 F'.err] 83 by rw [hw5, hbF]; exact Blk.new _ _ _)
              have HK5 := Lib.hid (show Keep (fun _ => False) w2 w5 by rw [hw5]; exact HK4.out.alloc _)
              have HP5 := Lib.hid (show Blk w5 bA (posC s j) 28 by rw [hw5]; exact HP4.out.alloc _)
              have HTK5 := Lib.hid (show Blk w5 bT #[.int .i64 0, .string ⟨#[]⟩, .int .i64 0, .bool false, .int .i64 0, .int .i64 0, .int .i64 0] 50 by rw [hw5]; exact HTK4.out.alloc _)
              have hFT : bF ≠ bT := by have := Blk.lt HTK4.out; omega
              have hFA : bF ≠ bA := by have := Blk.lt HP4.out; omega
              clear hw5 hbF a0 a1 a2
              have aP := HP5.out.all3
              have aF := HFO.out.all9
              have aT := HTK5.out.all7
              go_region
              obtain ⟨w6, hw6⟩ : ∃ w6, w6 = (((((((w5.setCell ⟨bT, 0, none⟩ (.int .i64 F'.kind)).setCell ⟨bT, 1, none⟩ (.string ⟨F'.text.toArray⟩)).setCell ⟨bT, 2, none⟩ (.int .i64 F'.n)).setCell ⟨bT, 3, none⟩ (.bool false)).setCell ⟨bT, 4, none⟩ (.int .i64 0)).setCell ⟨bT, 5, none⟩ (.int .i64 0)).setCell ⟨bT, 6, none⟩ (.int .i64 0)).drew := ⟨_, rfl⟩
              rw [← hw6]
              have hTlt : wp.heap.size ≤ bT := by have := HKJ.out.size; have := HBT.out; omega
              have HT6 := Lib.hid (show Blk w6 bT #[.int .i64 F'.kind, .string ⟨F'.text.toArray⟩, .int .i64 F'.n, .bool false, .int .i64 0, .int .i64 0, .int .i64 0] 50 by rw [hw6]; exact (HTK5.out.set7 _ _ _ _ _ _ _).drew)
              have HP6 := Lib.hid (show Blk w6 bA (posC s j) 28 by rw [hw6]; exact (HP5.out.put7 hAT _ _ _ _ _ _ _).drew)
              have HK6 := Lib.hid (show Keep (· = bA) wp w6 by rw [hw6]; exact ((HKJ.out.trans (HK5.out.mono (fun _ _ h => h.elim))).put7 (.inl hTlt) _ _ _ _ _ _ _).drew)
              clear hw6 aP aF aT
              have aP := HP6.out.all3
              have aT := HT6.out.all7
              go_upto_region 16 with (fail)
              obtain ⟨sm, hsm⟩ : ∃ sm : Bool, sm = (last == ((lineAt s j : Nat) : Int)) := ⟨_, rfl⟩
              rw [← hsm]
              obtain ⟨w7, hw7⟩ : ∃ w7, w7 = ((((w6.setCell ⟨bT, 4, none⟩ (.int .i64 j)).setCell ⟨bT, 5, none⟩ (.int .i64 (lineAt s j))).setCell ⟨bT, 6, none⟩ (.int .i64 (colAt s j))).setCell ⟨bT, 3, none⟩ (.bool sm)) := ⟨_, rfl⟩
              rw [← hw7]
              have HT7 := Lib.hid (show Blk w7 bT #[.int .i64 F'.kind, .string ⟨F'.text.toArray⟩, .int .i64 F'.n, .bool sm, .int .i64 j, .int .i64 (lineAt s j), .int .i64 (colAt s j)] 50 by rw [hw7]; have := (((HT6.out.set 4 (.int .i64 j)).set 5 (.int .i64 (lineAt s j))).set 6 (.int .i64 (colAt s j))).set 3 (.bool sm); simpa using this)
              have HP7 := Lib.hid (show Blk w7 bA (posC s j) 28 by rw [hw7]; exact (((HP6.out.far (p := ⟨bT, 4, none⟩) hAT _).far (p := ⟨bT, 5, none⟩) hAT _).far (p := ⟨bT, 6, none⟩) hAT _).far (p := ⟨bT, 3, none⟩) hAT _)
              have HK7 := Lib.hid (show Keep (· = bA) wp w7 by
                rw [hw7]
                have hp : ∀ i : Nat, (⟨bT, i, none⟩ : Addr).block < wp.heap.size → bT = bA := fun i hi => absurd hi (Nat.not_lt.2 hTlt)
                exact (((HK6.out.setCell (hp 4) _).setCell (hp 5) _).setCell (hp 6) _).setCell (hp 3) _)
              have HO7 := Lib.hid (ownsRow_keep HOWN.out HK7.out (fun k hk e => by have := (World.ownsRow.lt (show World.ownsRow _ _ _ _ _ _ _ from HOWN.out) k hk).1; omega))
              have HSM := Lib.hid hsm
              clear hw7 aP aT hsm
              have aT := HT7.out.all7
              obtain ⟨i0, hi0, hz0, hz1, hz2⟩ := info_parts info_tok
              have hW7 : W.heap.size ≤ w7.heap.size := by have := HKP.out.size; have := HK7.out.size; omega
              go_wp2_with (at_builtin; refine wpList_append_own _ rfl _ _ 45 rfl W.heap.size 50 i0 _ 7 64 Tryz.underlying45 hi0 hz0 hz1 hz2 rfl (by decide) (.slice oA l.length oc) l.length (toksC l) rfl ?c0A ⟨w7.heap.size, 0, none⟩ 1 1 [Value.int .i64 F'.kind, Value.string ⟨F'.text.toArray⟩, Value.int .i64 F'.n, Value.bool sm, Value.int .i64 j, Value.int .i64 (lineAt s j), Value.int .i64 (colAt s j)] rfl rfl ?c1A ?c2A ?c3A ?c4A ?c5A ?_)
              case c0A => exact World.ownsRow.alloc (show World.ownsRow _ _ _ _ _ _ _ from HO7.out) _
              case c1A => exact World.news_of_block (cs := #[Value.int .i64 F'.kind, Value.string ⟨F'.text.toArray⟩, Value.int .i64 F'.n, Value.bool sm, Value.int .i64 j, Value.int .i64 (lineAt s j), Value.int .i64 (colAt s j)]) (t := 50) (fr := (0, 0)) (by exact Blk.new _ _ _)
              case c2A => simp [Value.oneCell']
              case c3A => unfold maxLen; omega
              case c4A => omega
              case c5A => simp; omega
              · intro v' w8 hown' hgrow _
                have hoB : ∀ k, (Value.slice oA l.length oc).ownBlock = some k → W.heap.size ≤ k ∧ k < w7.heap.size := fun k hk => World.ownsRow.lt (show World.ownsRow _ _ _ _ _ _ _ from HO7.out) k hk
                have hoP : ∀ k, (Value.slice oA l.length oc).ownBlock = some k → k < wp.heap.size := fun k hk => (World.ownsRow.lt (show World.ownsRow _ _ _ _ _ _ _ from HOWN.out) k hk).2
                have hs7 : bT < w7.heap.size := Blk.lt HT7.out
                have hsA : bA < w7.heap.size := Blk.lt HP7.out
                have HT8 := Lib.hid (show Blk w8 bT #[.int .i64 F'.kind, .string ⟨F'.text.toArray⟩, .int .i64 F'.n, .bool sm, .int .i64 j, .int .i64 (lineAt s j), .int .i64 (colAt s j)] 50 from (hgrow.block bT (by simp; omega) (fun e => by have := hoP _ e.symm; omega)).trans (HT7.out.alloc _))
                have HP8 := Lib.hid (show Blk w8 bA (posC s j) 28 from (hgrow.block bA (by simp; omega) (fun e => by have := (hoB _ e.symm).1; omega)).trans (HP7.out.alloc _))
                have HK8 := Lib.hid (show Keep (· = bA) W w8 from ((HKP.out.trans HK7.out).alloc _).grown hgrow (fun k hk hlt => by have := (hoB _ hk).1; omega))
                have HO8 := Lib.hid (show OwnToks w8 W.heap.size v' (l ++ [tokAt s j last F']) by
                  unfold OwnToks
                  rw [toksC_snoc, List.length_append, List.length_singleton]
                  unfold tokAt
                  rw [← HSM.out]
                  exact hown')
                have hFl := tokOf_len (bs T) (by rw [bs_len, HTS.out]; omega) (by rw [← HF.out]; exact HE.out)
                rw [← HF.out, bs_len, HTS.out] at hFl
                have hkd := tokOf_kind (bs T) (by rw [← HF.out]; exact HE.out)
                rw [← HF.out] at hkd
                have tk : ((F'.kind : Int) == 0) = false := by rw [beq_eq_false_iff_ne]; omega
                have HGG2 : Hid (lexGo s f (j + F'.len) ((lineAt s (j + F'.len) : Nat) : Int) (l ++ [tokAt s j last F']) = R) := by
                  have := HGF.out
                  rw [if_pos HE.out] at this
                  exact this
                obtain ⟨n, HN⟩ : ∃ n, Hid (n = F'.len) := ⟨_, Lib.hid rfl⟩
                rw [← HN.out] at hFl ⊢
                clear hown' hgrow aT hoB hoP
                have aT := HT8.out.all7
                go_wp2_with fail
                go_loopw [12] (fun i wr => ∃ (i' m : Nat), i = .int .i64 i' ∧ i' ≤ n ∧ Hid (m = j + i') ∧ Blk wr bA (posC s m) 28 ∧ Keep (· = bA) w8 wr) (fun i _ => n - (intOf i).toNat)
                case atStart => exact ⟨0, j, rfl, Nat.zero_le _, Lib.hid rfl, HP8.out, Keep.refl _ _⟩
                case round =>
                  obtain ⟨i', m, rfl, hi'n, HM, hpm, hkm⟩ := hrel
                  have HPM := Lib.hid hpm
                  have HKM := Lib.hid hkm
                  have hmn : m = j + i' := HM.out
                  clear hpm hkm
                  by_cases hin : i' < n
                  · have hms : m < s.size := by omega
                    have m0 : (0 : Int) ≤ (m : Int) := by omega
                    have m1 : (m : Int) < (s.size : Int) := by omega
                    have tn : decide ((i' : Int) < (n : Int)) = true := by simp; omega
                    obtain ⟨c', hc'⟩ : ∃ c', c' = s[m] := ⟨_, rfl⟩
                    have hix' : ∀ (h : m < s.size), ((s[m]'h).toNat : Int) = (c'.toNat : Int) := fun h => by rw [hc']
                    have HST : Hid (∀ W, Calls Tryz.prog 38 #[.agg #[.int .i64 m, .int .i64 (lineAt s m), .int .i64 (colAt s m)], .int .u8 (c'.toNat : Int)] W fun e w' => e = .returned (.agg (posC s (m + 1))) ∧ Keep (fun _ => False) W w') := fun W => refStep_at s m hms hs _ (by rw [hc']) W
                    clear hc' hmn
                    have a0 := HPM.out.at_ 0 (v := .int .i64 m) rfl
                    have a1 := HPM.out.at_ 1 (v := .int .i64 (lineAt s m)) rfl
                    have a2 := HPM.out.at_ 2 (v := .int .i64 (colAt s m)) rfl
                    go_wp2_with fail
                    go_still_tail 5, (by kernel_rfl)
                    change wpList _ _ _ _ _ (World.drew wr)
                    obtain ⟨w9, hw9⟩ : ∃ w9, w9 = World.drew wr := ⟨_, rfl⟩
                    rw [← hw9]
                    have HP9 : Hid (Blk w9 bA (posC s m) 28) := by show Blk _ _ _ _; rw [hw9]; exact HPM.out
                    have HK9 : Hid (Keep (fun _ => False) wr w9) := by show Keep _ _ _; rw [hw9]; exact (Keep.refl _ _).drew
                    clear hw9 a0 a1 a2
                    go_wp2_with fail
                    refine (HST.out _).mono ?_
                    rintro e w10 ⟨rfl, hk10⟩
                    have HP10 := Lib.hid (hk10.blk HP9.out (fun h => h))
                    have HK10 := Lib.hid (HK9.out.trans hk10)
                    clear hk10 HK9 HP9
                    have a0 := HP10.out.at_ 0 (v := .int .i64 m) rfl
                    have a1 := HP10.out.at_ 1 (v := .int .i64 (lineAt s (m))) rfl
                    have a2 := HP10.out.at_ 2 (v := .int .i64 (colAt s (m))) rfl
                    have f0 := HP10.out.free 0
                    have f1 := HP10.out.free 1
                    have f2 := HP10.out.free 2
                    unfold posC
                    go_wp2_with fail
                    refine ⟨⟨i' + 1, m + 1, by go_num, by omega, by show m + 1 = j + (i' + 1); have := HM.out; omega, posBlk HP10.out, posKeep (HKM.out.trans (HK10.out.mono (fun _ _ h => h.elim))) _ _ _⟩, ?_⟩
                    simp [intOf]; omega
                  · obtain rfl : i' = n := by omega
                    have tn : decide ((i' : Int) < (i' : Int)) = false := by simp
                    have a1 := HPM.out.at_ 1 (v := .int .i64 (lineAt s m)) rfl
                    have hms : m ≤ s.size := by omega
                    have hmp : p < m := by omega
                    have hll : lineAt s m ≤ m := lineAt_le s m
                    have HMM := Lib.hid hmn
                    clear hmn
                    go_wp2_with fail
                    go_roundw
                    case rel =>
                      refine ⟨m, l ++ [tokAt s j last F'], ((lineAt s m : Nat) : Int), f, rfl, by omega, by omega, HPM.out, ?_, HK8.out.trans HKM.out, ?_, hms, by omega, by simp; omega⟩
                      · exact ownsRow_keep HO8.out HKM.out (fun k hk e => by have := (World.ownsRow.lt (show World.ownsRow _ _ _ _ _ _ _ from HO8.out) k hk).1; omega)
                      · have h1 := HGG2.out
                        rw [← HN.out, ← HMM.out] at h1
                        exact h1
                    case measure =>
                      rw [posOf_of HPM.out, posOf_of HPOS.out]
                      omega
            · have te : ((F'.err : Int) != 0) = true := by rw [HFE.out, bne_iff_ne]; omega
              have HE := Lib.hid hE
              clear hE
              go_wp2_with fail
              obtain ⟨w5, hw5⟩ : ∃ w5, w5 = w4.alloc (.cells #[.int .i64 F'.kind, .string ⟨F'.text.toArray⟩, .int .i64 F'.n, .bool false, .int .i64 0, .int .i64 0, .int .i64 0, .int .i64 F'.len, .int .i64 F'.err] 83) := ⟨_, rfl⟩
              rw [← hw5]
              obtain ⟨bF, hbF⟩ : ∃ bF, bF = w4.heap.size := ⟨_, rfl⟩
              rw [← hbF]
              have HFO := Lib.hid (show Blk w5 bF #[.int .i64 F'.kind, .string ⟨F'.text.toArray⟩, .int .i64 F'.n, .bool false, .int .i64 0, .int .i64 0, .int .i64 0, .int .i64 F'.len, .int .i64 F'.err] 83 by rw [hw5, hbF]; exact Blk.new _ _ _)
              have HK5 := Lib.hid (show Keep (fun _ => False) w2 w5 by rw [hw5]; exact HK4.out.alloc _)
              have HP5 := Lib.hid (show Blk w5 bA (posC s j) 28 by rw [hw5]; exact HP4.out.alloc _)
              have HTK5 := Lib.hid (show Blk w5 bT #[.int .i64 0, .string ⟨#[]⟩, .int .i64 0, .bool false, .int .i64 0, .int .i64 0, .int .i64 0] 50 by rw [hw5]; exact HTK4.out.alloc _)
              have hFT : bF ≠ bT := by have := Blk.lt HTK4.out; omega
              have hFA : bF ≠ bA := by have := Blk.lt HP4.out; omega
              clear hw5 hbF a0 a1 a2
              have aP := HP5.out.all3
              have aF := HFO.out.all9
              have hDA : w.heap.size ≠ bA := by omega
              have HD5 := Lib.hid (HK5.out.blk (HKJ.out.blk (HKP.out.blk HBD.out hDA) hDA) (fun h => h))
              have aD := HD5.out.all4
              go_region
              go_wp2_with fail
              have X := (HD5.out.set4 (.int .i64 F'.err) (.int .i64 j) (.int .i64 (lineAt s j)) (.int .i64 (colAt s j))).drew
              have x0 := X.at_ 0 rfl
              have x1 := X.at_ 1 rfl
              have x2 := X.at_ 2 rfl
              have x3 := X.at_ 3 rfl
              refine bodyPost_ret (v := .tuple #[.slice none 0 0, .agg #[.int .i64 F'.err, .int .i64 j, .int .i64 (lineAt s j), .int .i64 (colAt s j)]]) (by simp [results, Tryz.results17, go_sem, x0, x1, x2, x3]) rfl ?_
              have hR2 : R = ⟨[], F.err, posA s j⟩ := by
                have := HGF.out
                rw [if_neg HE.out] at this
                exact this.symm
              unfold RefAllPost
              rw [hR2, HFE.out]
              refine ⟨_, rfl, World.ownsRow_nil _ _ _ _, ?_⟩
              have hK := (((HKW.out.mono (Q := (· = bA)) (fun _ _ h => h.elim)).trans HKP.out).trans HKJ.out).trans (HK5.out.mono (fun _ _ h => h.elim))
              exact ((hK.mono (Q := fun _ => False) (fun k hk e => by omega)).set4 (Nat.le_refl _) _ _ _ _).drew
        · obtain rfl : j = s.size := by omega
          have hqe : q = s.size := by omega
          have HR2 : Hid (R = ⟨l ++ [endAt s s.size last], 0, (0, 0, 0)⟩) := by
            show R = _
            have h1 := HGG.out
            rw [hqe, if_neg hjs] at h1
            exact h1.symm
          have tj : decide (s.size < s.size) = false := by simp
          have hlA := Blk.lt HPJ.out
          obtain ⟨w2, hw2⟩ : ∃ w2 : World, w2 = wr := ⟨_, rfl⟩
          subst hw2
          have nbA : bA ≠ w2.heap.size := by omega
          clear hqe
          go_upto_region 16 with (fail)
          obtain ⟨sm, hsm⟩ : ∃ sm : Bool, sm = (last == ((lineAt s s.size : Nat) : Int)) := ⟨_, rfl⟩
          rw [← hsm]
          obtain ⟨w7, hw7⟩ : ∃ w7, w7 = w2.alloc (.cells #[.int .i64 0, .string ⟨#[]⟩, .int .i64 0, .bool sm, .int .i64 s.size, .int .i64 (lineAt s s.size), .int .i64 (colAt s s.size)] 50) := ⟨_, rfl⟩
          rw [← hw7]
          obtain ⟨bT, hbT⟩ : ∃ bT, bT = w2.heap.size := ⟨_, rfl⟩
          rw [← hbT]
          have HT7 := Lib.hid (show Blk w7 bT #[.int .i64 0, .string ⟨#[]⟩, .int .i64 0, .bool sm, .int .i64 s.size, .int .i64 (lineAt s s.size), .int .i64 (colAt s s.size)] 50 by rw [hw7, hbT]; exact Blk.new _ _ _)
          have HK7 := Lib.hid (show Keep (· = bA) wp w7 by rw [hw7]; exact HKJ.out.alloc _)
          have hTlt : wp.heap.size ≤ bT := by have := HKJ.out.size; omega
          have HO7 := Lib.hid (ownsRow_keep HOWN.out HK7.out (fun k hk e => by have := (World.ownsRow.lt (show World.ownsRow _ _ _ _ _ _ _ from HOWN.out) k hk).1; omega))
          have HSM := Lib.hid hsm
          clear hw7 hsm hbT a0 a1 a2
          have aT := HT7.out.all7
          obtain ⟨i0, hi0, hz0, hz1, hz2⟩ := info_parts info_tok
          have hW7 : W.heap.size ≤ w7.heap.size := by have := HKP.out.size; have := HK7.out.size; omega
          go_wp2_with (at_builtin; refine wpList_append_own _ rfl _ _ 45 rfl W.heap.size 50 i0 _ 7 64 Tryz.underlying45 hi0 hz0 hz1 hz2 rfl (by decide) (.slice oA l.length oc) l.length (toksC l) rfl ?c0B ⟨w7.heap.size, 0, none⟩ 1 1 [Value.int .i64 0, Value.string ⟨#[]⟩, Value.int .i64 0, Value.bool sm, Value.int .i64 s.size, Value.int .i64 (lineAt s s.size), Value.int .i64 (colAt s s.size)] rfl rfl ?c1B ?c2B ?c3B ?c4B ?c5B ?_)
          case c0B => exact World.ownsRow.alloc (show World.ownsRow _ _ _ _ _ _ _ from HO7.out) _
          case c1B => exact World.news_of_block (cs := #[Value.int .i64 0, Value.string ⟨#[]⟩, Value.int .i64 0, Value.bool sm, Value.int .i64 s.size, Value.int .i64 (lineAt s s.size), Value.int .i64 (colAt s s.size)]) (t := 50) (fr := (0, 0)) (by exact Blk.new _ _ _)
          case c2B => simp [Value.oneCell']
          case c3B => unfold maxLen; omega
          case c4B => omega
          case c5B => simp; omega
          · intro v' w8 hown' hgrow _
            have hoB : ∀ k, (Value.slice oA l.length oc).ownBlock = some k → W.heap.size ≤ k ∧ k < w7.heap.size := fun k hk => World.ownsRow.lt (show World.ownsRow _ _ _ _ _ _ _ from HO7.out) k hk
            have hoP : ∀ k, (Value.slice oA l.length oc).ownBlock = some k → k < wp.heap.size := fun k hk => (World.ownsRow.lt (show World.ownsRow _ _ _ _ _ _ _ from HOWN.out) k hk).2
            have hs7 : bT < w7.heap.size := Blk.lt HT7.out
            have HT8 := Lib.hid (show Blk w8 bT #[.int .i64 0, .string ⟨#[]⟩, .int .i64 0, .bool sm, .int .i64 s.size, .int .i64 (lineAt s s.size), .int .i64 (colAt s s.size)] 50 from (hgrow.block bT (by simp; omega) (fun e => by have := hoP _ e.symm; omega)).trans (HT7.out.alloc _))
            have HK8 := Lib.hid (show Keep (· = bA) W w8 from ((HKP.out.trans HK7.out).alloc _).grown hgrow (fun k hk hlt => by have := (hoB _ hk).1; omega))
            have HO8 := Lib.hid (show OwnToks w8 W.heap.size v' (l ++ [endAt s s.size last]) by
              unfold OwnToks
              rw [toksC_snoc, List.length_append, List.length_singleton]
              unfold endAt
              rw [← HSM.out]
              exact hown')
            have hDA : w.heap.size ≠ bA := by omega
            have HD8 := Lib.hid (HK8.out.blk HBD.out hDA)
            clear hown' hgrow aT hoB hoP
            have aT := HT8.out.all7
            have aD := HD8.out.all4
            go_wp2_with fail
            have X := HD8.out.set4 (.int .i64 0) (.int .i64 0) (.int .i64 0) (.int .i64 0)
            have x0 := X.at_ 0 rfl
            have x1 := X.at_ 1 rfl
            have x2 := X.at_ 2 rfl
            have x3 := X.at_ 3 rfl
            refine bodyPost_ret (v := .tuple #[v', .agg #[.int .i64 0, .int .i64 0, .int .i64 0, .int .i64 0]]) (by simp [results, Tryz.results17, go_sem, x0, x1, x2, x3]) rfl ?_
            unfold RefAllPost
            rw [HR2.out]
            have hK := (HKW.out.mono (Q := (· = bA)) (fun _ _ h => h.elim)).trans HK8.out
            refine ⟨_, rfl, ?_, (hK.mono (Q := fun _ => False) (fun k hk e => by omega)).set4 (Nat.le_refl _) _ _ _ _⟩
            have hKs : Keep (· = w.heap.size) w8 ((((w8.setCell ⟨w.heap.size, 0, none⟩ (.int .i64 0)).setCell ⟨w.heap.size, 1, none⟩ (.int .i64 0)).setCell ⟨w.heap.size, 2, none⟩ (.int .i64 0)).setCell ⟨w.heap.size, 3, none⟩ (.int .i64 0)) := (Keep.refl (· = w.heap.size) w8).put4 (P := (· = w.heap.size)) (.inr (show w.heap.size = w.heap.size from rfl)) _ _ _ _
            have h2 := ownsRow_keep HO8.out hKs (fun k hk e => by have := (World.ownsRow.lt (show World.ownsRow _ _ _ _ _ _ _ from HO8.out) k hk).1; omega)
            exact ownsRow_lower h2 (by omega)
end Go.Proofs.YtgmmjhelcpgakaaGreatDoor
