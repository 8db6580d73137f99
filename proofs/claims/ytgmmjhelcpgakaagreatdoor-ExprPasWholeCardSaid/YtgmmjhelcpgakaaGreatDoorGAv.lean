/- The reference's name, at Pas. -/
import Derived.Test.YtgmmjhelcpgakaaGreatDoorGK
import Derived.Test.YtgmmjhelcpgakaaGreatDoorGAu
import Derived.Test.YtgmmjhelcpgakaaGreatDoorGAl
namespace Go.Proofs.YtgmmjhelcpgakaaGreatDoor
open Go.RowKit
set_option linter.unusedVariables false
set_option linter.unusedSimpArgs false

def foundC (F : Fd) : Array Value := #[.int .i64 F.kind, .string ⟨F.text.toArray⟩, .int .i64 F.n, .bool false, .int .i64 0, .int .i64 0, .int .i64 0, .int .i64 F.len, .int .i64 F.err]
def foundV (F : Fd) : Value := .agg (foundC F)
theorem letB_low (c : UInt8) (h : greatB c = true) : letB (c + 32) = true ∧ (c + 32).toNat = c.toNat + 32 ∧ Lib.lowerB c = c + 32 := by
  have h1 := all_u8 (p := fun c => !greatB c || (letB (c + 32) && decide ((c + 32).toNat = c.toNat + 32) && Lib.lowerB c == c + 32)) (by decide +kernel) c
  rw [h] at h1
  simp only [Bool.not_true, Bool.false_or, Bool.and_eq_true, decide_eq_true_eq, beq_iff_eq] at h1
  exact ⟨h1.1.1, h1.1.2, h1.2⟩
theorem letB_same (c : UInt8) (h : greatB c = false) : letB c = nameB c ∧ Lib.lowerB c = c := by
  have h1 := all_u8 (p := fun c => greatB c || (letB c == nameB c && Lib.lowerB c == c)) (by decide +kernel) c
  simp [h] at h1
  exact h1
theorem lowL_succ (s : ByteArray) (k : Nat) (h : k < s.size) : lowL ((bs s).take (k + 1)) = lowL ((bs s).take k) ++ [Lib.lowerB s[k]] := by
  rw [take_snoc s k h]; unfold lowL Lib.toLowerA; rw [List.map_append]; rfl
theorem great_name {c : UInt8} (h : greatB c = true) : nameB c = true := by unfold nameB; rw [h]; simp
theorem great_range {c : UInt8} (h : greatB c = true) : 65 ≤ c.toNat ∧ c.toNat ≤ 90 := by unfold greatB at h; simpa using h
theorem lowL_len (s : ByteArray) (k : Nat) (h : k ≤ s.size) : (lowL ((bs s).take k)).length = k := by
  unfold lowL Lib.toLowerA; rw [List.length_map, List.length_take, bs_len]; omega

set_option maxRecDepth 100000 in
set_option maxHeartbeats 8000000 in
theorem refName_any (s : ByteArray) (w : World) (hs : s.size ≤ 140737488351232) :
    Calls Tryz.prog 71 #[.int .i64 0, .string s] w fun e w' => e = .returned (foundV (tokName (bs s))) ∧ Keep (fun _ => False) w w' := by
  obtain ⟨N, hN⟩ : ∃ N, N = spanLen nameB (bs s) := ⟨_, rfl⟩
  have hle := spanLen_le nameB (bs s)
  rw [← hN, bs_len] at hle
  have HN := Lib.hid hN
  clear hN
  have hu61 := Tryz.underlying83
  have hu38 := Tryz.underlying50
  have hu26 := Tryz.underlying28
  go_enter Tryz.func71, Tryz.ntmps71
  go_wp2_with fail
  obtain ⟨w0, hw0⟩ : ∃ w0, w0 = w.alloc (.cells #[.int .i64 0, .string ⟨#[]⟩, .int .i64 0, .bool false, .int .i64 0, .int .i64 0, .int .i64 0, .int .i64 0, .int .i64 0] 83) := ⟨_, rfl⟩
  rw [← hw0]
  have HF0 : Hid (Blk w0 w.heap.size #[.int .i64 0, .string ⟨#[]⟩, .int .i64 0, .bool false, .int .i64 0, .int .i64 0, .int .i64 0, .int .i64 0, .int .i64 0] 83) := by show Blk _ _ _ _; rw [hw0]; exact Blk.new _ _ _
  have HKW : Hid (Keep (fun _ => False) w w0) := by show Keep _ _ _; rw [hw0]; exact (Keep.refl _ w).alloc _
  clear hw0
  go_loopw [5, 6, 7, 8] (fun t n p l wr => ∃ (k : Nat) (b : Bool), k ≤ N ∧ l = .bool b ∧ n = .int .i64 k ∧ p = .int .i64 k ∧ Hid (b = decide (32 < k)) ∧ OwnBytes wr w0.heap.size t (lowL ((bs s).take k)) ∧ Keep (fun _ => False) w0 wr) (fun _ n _ _ _ => s.size - (intOf n).toNat)
  case atStart => exact ⟨0, false, Nat.zero_le _, rfl, rfl, rfl, rfl, OwnBytes.nil _ _, Keep.refl _ _⟩
  case round =>
    obtain ⟨k, b, hk, rfl, rfl, rfl, HB, hown, hkp⟩ := hrel
    obtain ⟨oA, oc, rfl⟩ := hown.form
    have HOW := Lib.hid hown
    have hlk := lowL_len s k (by omega)
    have hlk1 : (lowL ((bs s).take k)).length ≤ k := Nat.le_of_eq hlk
    clear hlk
    obtain ⟨out, HOUT⟩ : ∃ out, Hid (out = lowL ((bs s).take k)) := ⟨_, Lib.hid rfl⟩
    rw [← HOUT.out] at hown hlk1 ⊢
    by_cases hks : k < s.size
    · have j0 : (0 : Int) ≤ (k : Int) := by omega
      have j1 : (k : Int) < (s.size : Int) := by omega
      obtain ⟨x, hx⟩ : ∃ x, x = s[k] := ⟨_, rfl⟩
      have hix : ∀ (h : k < s.size), ((s[k]'h).toNat : Int) = (x.toNat : Int) := fun h => by rw [hx]
      have hin : k < N → nameB x = true := fun h => by
        rw [hx]
        obtain ⟨c, h1, h2⟩ := spanLen_at nameB (bs s) k (by rw [← HN.out]; exact h)
        rw [bs_get s k hks] at h1
        injection h1 with h1; rw [h1]; exact h2
      have hout : k = N → nameB x = false := fun h => by
        rw [hx]
        refine spanLen_end nameB (bs s) _ ?_
        rw [← HN.out, ← h]; exact bs_get s k hks
      have HTK0 : Hid (lowL ((bs s).take (k + 1)) = lowL ((bs s).take k) ++ [Lib.lowerB x]) := by rw [hx]; exact lowL_succ s k hks
      clear hx
      by_cases hgr : greatB x = true
      · have hkn : k < N := by
          rcases Nat.lt_or_ge k N with h | h
          · exact h
          · have h1 := hout (by omega)
            rw [great_name hgr] at h1; cases h1
        obtain ⟨g1, g2⟩ := great_range hgr
        obtain ⟨l1, l2, l3⟩ := letB_low x hgr
        have HLT := Lib.hid l1
        have HNV : Hid ((x.toNat : Int) - 65 + 97 = ((x + 32).toNat : Int)) := by show _ = _; rw [l2]; omega
        have HTK : Hid (lowL ((bs s).take (k + 1)) = lowL ((bs s).take k) ++ [x + 32]) := by show _ = _; rw [HTK0.out, l3]
        have t1 : decide ((65 : Int) ≤ (x.toNat : Int)) = true := by simp; omega
        have t2 : decide ((x.toNat : Int) ≤ 90) = true := by simp; omega
        clear hgr l1 l2 l3 hin hout
        by_cases hbb : b = true
        · subst hbb
          have HB2 : Hid (true = decide (32 < k + 1)) := by have := HB.out; simp at this; show _ = _; simp; omega
          obtain ⟨i0, hi, hz0, hz1, hz2⟩ := info_parts info_u8
          go_wp2_with fail
          refine (refLetter_any (x + 32) _ HNV.out _).mono ?_
          rintro e w3 ⟨rfl, rfl⟩
          rw [HLT.out]
          go_wp2_with (at_builtin; refine wpList_append_own _ rfl _ _ 112 rfl w0.heap.size 5 i0 (.int .u8 0) 1 1 Tryz.underlying112 hi hz0 hz1 hz2 rfl (by decide) _ _ _ rfl (hown.alloc _) _ 1 1 [.int .u8 ((x.toNat : Int) - 65 + 97)] rfl rfl ?c1q1 ?c2q1 ?c3q1 ?c4q1 ?c5q1 ?_)
          case c1q1 =>
            intro j u hj
            match j, hj with
            | 0, hj => simp at hj; subst hj; simp only [Addr.add]; exact Blk.at_ (Blk.new _ _ _) 0 rfl
          case c2q1 => intro u hu; simp at hu; subst hu; rfl
          case c3q1 => unfold maxLen; omega
          case c4q1 => omega
          case c5q1 => have := hkp.size; simp; omega
          · intro v' w1 hown' hgrow _
            have hk3 : Keep (fun _ => False) w0 w1 := (hkp.alloc _).grown hgrow (by
              intro q hq hlt
              have h4 := (World.ownsRow.lt (show World.ownsRow _ _ _ _ _ _ _ from hown) q hq).1
              omega)
            have ho3 : OwnBytes w1 w0.heap.size v' (lowL ((bs s).take (k + 1))) := by
              rw [HTK.out, ← HOUT.out]
              refine OwnBytes.snoc ?_
              rw [← HNV.out]
              simpa [u8v] using hown'
            clear hown' hgrow hown hkp
            go_wp2_with fail
            go_roundw
            case rel => exact ⟨k + 1, _, by omega, rfl, by go_num, by go_num, HB2.out, ho3, hk3⟩
            case measure => simp [intOf]; omega
        · obtain rfl : b = false := by simpa using hbb
          have HB2 : Hid (decide ((32 : Int) < (k : Int) + 1) = decide (32 < k + 1)) := by show _ = _; rw [Bool.eq_iff_iff]; simp; omega
          obtain ⟨i0, hi, hz0, hz1, hz2⟩ := info_parts info_u8
          go_wp2_with fail
          refine (refLetter_any (x + 32) _ HNV.out _).mono ?_
          rintro e w3 ⟨rfl, rfl⟩
          rw [HLT.out]
          go_wp2_with (at_builtin; refine wpList_append_own _ rfl _ _ 112 rfl w0.heap.size 5 i0 (.int .u8 0) 1 1 Tryz.underlying112 hi hz0 hz1 hz2 rfl (by decide) _ _ _ rfl (hown.alloc _) _ 1 1 [.int .u8 ((x.toNat : Int) - 65 + 97)] rfl rfl ?c1q2 ?c2q2 ?c3q2 ?c4q2 ?c5q2 ?_)
          case c1q2 =>
            intro j u hj
            match j, hj with
            | 0, hj => simp at hj; subst hj; simp only [Addr.add]; exact Blk.at_ (Blk.new _ _ _) 0 rfl
          case c2q2 => intro u hu; simp at hu; subst hu; rfl
          case c3q2 => unfold maxLen; omega
          case c4q2 => omega
          case c5q2 => have := hkp.size; simp; omega
          · intro v' w1 hown' hgrow _
            have hk3 : Keep (fun _ => False) w0 w1 := (hkp.alloc _).grown hgrow (by
              intro q hq hlt
              have h4 := (World.ownsRow.lt (show World.ownsRow _ _ _ _ _ _ _ from hown) q hq).1
              omega)
            have ho3 : OwnBytes w1 w0.heap.size v' (lowL ((bs s).take (k + 1))) := by
              rw [HTK.out, ← HOUT.out]
              refine OwnBytes.snoc ?_
              rw [← HNV.out]
              simpa [u8v] using hown'
            clear hown' hgrow hown hkp
            go_wp2_with fail
            go_roundw
            case rel => exact ⟨k + 1, _, by omega, rfl, by go_num, by go_num, HB2.out, ho3, hk3⟩
            case measure => simp [intOf]; omega
      · have hgf : greatB x = false := by simpa using hgr
        obtain ⟨l1, l2⟩ := letB_same x hgf
        have HTK : Hid (lowL ((bs s).take (k + 1)) = lowL ((bs s).take k) ++ [x]) := by show _ = _; rw [HTK0.out, l2]
        have hxl := x.toNat_lt
        have HL1 := Lib.hid l1
        unfold greatB at hgf
        simp at hgf
        clear hgr l1 l2
        have hcases : (65 ≤ x.toNat ∧ 90 < x.toNat) ∨ x.toNat < 65 := by omega
        rcases hcases with ⟨g1, g2⟩ | g1
        all_goals
          first
          | (have t1 : decide ((65 : Int) ≤ (x.toNat : Int)) = true := by simp; omega
             have t2 : decide ((x.toNat : Int) ≤ 90) = false := by simp; omega)
          | (have t1 : decide ((65 : Int) ≤ (x.toNat : Int)) = false := by simp; omega)
          clear hgf
          by_cases hkn : k < N
          · have HLT : Hid (letB x = true) := by show _ = _; rw [HL1.out]; exact hin hkn
            clear hin hout
            by_cases hbb : b = true
            · subst hbb
              have HB2 : Hid (true = decide (32 < k + 1)) := by have := HB.out; simp at this; show _ = _; simp; omega
              obtain ⟨i0, hi, hz0, hz1, hz2⟩ := info_parts info_u8
              go_wp2_with fail
              refine (refLetter_any x _ rfl _).mono ?_
              rintro e w3 ⟨rfl, rfl⟩
              rw [HLT.out]
              go_wp2_with (at_builtin; refine wpList_append_own _ rfl _ _ 112 rfl w0.heap.size 5 i0 (.int .u8 0) 1 1 Tryz.underlying112 hi hz0 hz1 hz2 rfl (by decide) _ _ _ rfl (hown.alloc _) _ 1 1 [.int .u8 ((x.toNat : Int))] rfl rfl ?c1q3 ?c2q3 ?c3q3 ?c4q3 ?c5q3 ?_)
              case c1q3 =>
                intro j u hj
                match j, hj with
                | 0, hj => simp at hj; subst hj; simp only [Addr.add]; exact Blk.at_ (Blk.new _ _ _) 0 rfl
              case c2q3 => intro u hu; simp at hu; subst hu; rfl
              case c3q3 => unfold maxLen; omega
              case c4q3 => omega
              case c5q3 => have := hkp.size; simp; omega
              · intro v' w1 hown' hgrow _
                have hk3 : Keep (fun _ => False) w0 w1 := (hkp.alloc _).grown hgrow (by
                  intro q hq hlt
                  have h4 := (World.ownsRow.lt (show World.ownsRow _ _ _ _ _ _ _ from hown) q hq).1
                  omega)
                have ho3 : OwnBytes w1 w0.heap.size v' (lowL ((bs s).take (k + 1))) := by
                  rw [HTK.out, ← HOUT.out]
                  refine OwnBytes.snoc ?_
                  simpa [u8v] using hown'
                clear hown' hgrow hown hkp
                go_wp2_with fail
                go_roundw
                case rel => exact ⟨k + 1, _, by omega, rfl, by go_num, by go_num, HB2.out, ho3, hk3⟩
                case measure => simp [intOf]; omega
            · obtain rfl : b = false := by simpa using hbb
              have HB2 : Hid (decide ((32 : Int) < (k : Int) + 1) = decide (32 < k + 1)) := by show _ = _; rw [Bool.eq_iff_iff]; simp; omega
              obtain ⟨i0, hi, hz0, hz1, hz2⟩ := info_parts info_u8
              go_wp2_with fail
              refine (refLetter_any x _ rfl _).mono ?_
              rintro e w3 ⟨rfl, rfl⟩
              rw [HLT.out]
              go_wp2_with (at_builtin; refine wpList_append_own _ rfl _ _ 112 rfl w0.heap.size 5 i0 (.int .u8 0) 1 1 Tryz.underlying112 hi hz0 hz1 hz2 rfl (by decide) _ _ _ rfl (hown.alloc _) _ 1 1 [.int .u8 ((x.toNat : Int))] rfl rfl ?c1q4 ?c2q4 ?c3q4 ?c4q4 ?c5q4 ?_)
              case c1q4 =>
                intro j u hj
                match j, hj with
                | 0, hj => simp at hj; subst hj; simp only [Addr.add]; exact Blk.at_ (Blk.new _ _ _) 0 rfl
              case c2q4 => intro u hu; simp at hu; subst hu; rfl
              case c3q4 => unfold maxLen; omega
              case c4q4 => omega
              case c5q4 => have := hkp.size; simp; omega
              · intro v' w1 hown' hgrow _
                have hk3 : Keep (fun _ => False) w0 w1 := (hkp.alloc _).grown hgrow (by
                  intro q hq hlt
                  have h4 := (World.ownsRow.lt (show World.ownsRow _ _ _ _ _ _ _ from hown) q hq).1
                  omega)
                have ho3 : OwnBytes w1 w0.heap.size v' (lowL ((bs s).take (k + 1))) := by
                  rw [HTK.out, ← HOUT.out]
                  refine OwnBytes.snoc ?_
                  simpa [u8v] using hown'
                clear hown' hgrow hown hkp
                go_wp2_with fail
                go_roundw
                case rel => exact ⟨k + 1, _, by omega, rfl, by go_num, by go_num, HB2.out, ho3, hk3⟩
                case measure => simp [intOf]; omega
          · obtain rfl : k = N := by omega
            have HLT : Hid (letB x = false) := by show _ = _; rw [HL1.out]; exact hout rfl
            clear hin hout
            go_wp2_with fail
            refine (refLetter_any x _ rfl _).mono ?_
            rintro e w3 ⟨rfl, rfl⟩
            rw [HLT.out]
            have HBK := Lib.hid (hkp.blk HF0.out (fun h => h))
            have HK := Lib.hid (HKW.out.trans hkp)
            have hcv := hown.str0
            clear hkp hown
            have fr0 := HBK.out.free 0
            have ce0 := HBK.out.at_ 0 rfl
            have fr1 := HBK.out.free 1
            have ce1 := HBK.out.at_ 1 rfl
            have fr2 := HBK.out.free 2
            have ce2 := HBK.out.at_ 2 rfl
            have fr3 := HBK.out.free 3
            have ce3 := HBK.out.at_ 3 rfl
            have fr4 := HBK.out.free 4
            have ce4 := HBK.out.at_ 4 rfl
            have fr5 := HBK.out.free 5
            have ce5 := HBK.out.at_ 5 rfl
            have fr6 := HBK.out.free 6
            have ce6 := HBK.out.at_ 6 rfl
            have fr7 := HBK.out.free 7
            have ce7 := HBK.out.at_ 7 rfl
            have fr8 := HBK.out.free 8
            have ce8 := HBK.out.at_ 8 rfl
            by_cases hlg : 32 < k
            · have hbt : b = true := by rw [HB.out]; simpa using hlg
              subst hbt
              have HF : Hid (tokName (bs s) = fail 3) := by show _ = _; unfold tokName; rw [← HN.out, if_neg (by omega)]
              clear hlg hcv
              go_wp2_with fail
              have X := Blk.set9 HBK.out (.int .i64 0) (.string ⟨#[]⟩) (.int .i64 0) (.bool false) (.int .i64 0) (.int .i64 0) (.int .i64 0) (.int .i64 0) (.int .i64 3)
              have x0 := X.at_ 0 rfl
              have x1 := X.at_ 1 rfl
              have x2 := X.at_ 2 rfl
              have x3 := X.at_ 3 rfl
              have x4 := X.at_ 4 rfl
              have x5 := X.at_ 5 rfl
              have x6 := X.at_ 6 rfl
              have x7 := X.at_ 7 rfl
              have x8 := X.at_ 8 rfl
              refine bodyPost_ret (v := .agg #[.int .i64 0, .string ⟨#[]⟩, .int .i64 0, .bool false, .int .i64 0, .int .i64 0, .int .i64 0, .int .i64 0, .int .i64 3]) (by simp [results, Tryz.results71, go_sem, x0, x1, x2, x3, x4, x5, x6, x7, x8]) rfl ?_
              exact ⟨by rw [HF.out]; rfl, Keep.set9 HK.out (Nat.le_refl _) _ _ _ _ _ _ _ _ _⟩
            · have hbt : b = false := by rw [HB.out]; simpa using hlg
              subst hbt
              obtain ⟨iw, hiw⟩ : ∃ iw, iw = isWord out := ⟨_, rfl⟩
              have HF : Hid (tokName (bs s) = ⟨0, if iw = true then 2 else 1, out, 0, k⟩) := by show _ = _; unfold tokName; rw [← HN.out, if_pos (by omega), ← HOUT.out, ← hiw]
              have HIS : Hid (∀ W, Calls Tryz.prog 105 #[.int .i64 0, .string ⟨out.toArray⟩] W fun e w' => e = .returned (.bool iw) ∧ Keep (fun _ => False) W w') := by
                intro W
                have := refIsAt_any ⟨out.toArray⟩ W
                rw [bs_mk, ← hiw] at this
                exact this
              have HCV := Lib.hid hcv
              clear hlg hiw hcv
              by_cases hiw : iw = true
              all_goals
                first | subst hiw | (obtain rfl : iw = false := by simpa using hiw)
                have hcv := HCV.out
                go_wp2_with fail
                refine (HIS.out _).mono ?_
                rintro e w3 ⟨rfl, hk3⟩
                have HBK3 := Lib.hid (hk3.blk HBK.out (fun h => h))
                have HK3 := Lib.hid (HK.out.trans hk3)
                have hcv3 := (HOW.out.keep hk3 (fun _ h => h.elim)).str0
                rw [← HOUT.out] at hcv3
                clear fr0 ce0 fr1 ce1 fr2 ce2 fr3 ce3 fr4 ce4 fr5 ce5 fr6 ce6 fr7 ce7 fr8 ce8
                have gr0 := HBK3.out.free 0
                have ge0 := HBK3.out.at_ 0 rfl
                have gr1 := HBK3.out.free 1
                have ge1 := HBK3.out.at_ 1 rfl
                have gr2 := HBK3.out.free 2
                have ge2 := HBK3.out.at_ 2 rfl
                have gr3 := HBK3.out.free 3
                have ge3 := HBK3.out.at_ 3 rfl
                have gr4 := HBK3.out.free 4
                have ge4 := HBK3.out.at_ 4 rfl
                have gr5 := HBK3.out.free 5
                have ge5 := HBK3.out.at_ 5 rfl
                have gr6 := HBK3.out.free 6
                have ge6 := HBK3.out.at_ 6 rfl
                have gr7 := HBK3.out.free 7
                have ge7 := HBK3.out.at_ 7 rfl
                have gr8 := HBK3.out.free 8
                have ge8 := HBK3.out.at_ 8 rfl
                clear hk3 hcv
                go_wp2_with fail
                first
                | (have X := Blk.set9 HBK3.out (.int .i64 2) (.string ⟨out.toArray⟩) (.int .i64 0) (.bool false) (.int .i64 0) (.int .i64 0) (.int .i64 0) (.int .i64 k) (.int .i64 0)
                   have x0 := X.at_ 0 rfl
                   have x1 := X.at_ 1 rfl
                   have x2 := X.at_ 2 rfl
                   have x3 := X.at_ 3 rfl
                   have x4 := X.at_ 4 rfl
                   have x5 := X.at_ 5 rfl
                   have x6 := X.at_ 6 rfl
                   have x7 := X.at_ 7 rfl
                   have x8 := X.at_ 8 rfl
                   refine bodyPost_ret (v := .agg #[.int .i64 2, .string ⟨out.toArray⟩, .int .i64 0, .bool false, .int .i64 0, .int .i64 0, .int .i64 0, .int .i64 k, .int .i64 0]) (by simp [results, Tryz.results71, go_sem, x0, x1, x2, x3, x4, x5, x6, x7, x8]) rfl ?_
                   exact ⟨by rw [HF.out]; rfl, Keep.set9 HK3.out (Nat.le_refl _) _ _ _ _ _ _ _ _ _⟩)
                | (have X := Blk.set9 HBK3.out (.int .i64 1) (.string ⟨out.toArray⟩) (.int .i64 0) (.bool false) (.int .i64 0) (.int .i64 0) (.int .i64 0) (.int .i64 k) (.int .i64 0)
                   have x0 := X.at_ 0 rfl
                   have x1 := X.at_ 1 rfl
                   have x2 := X.at_ 2 rfl
                   have x3 := X.at_ 3 rfl
                   have x4 := X.at_ 4 rfl
                   have x5 := X.at_ 5 rfl
                   have x6 := X.at_ 6 rfl
                   have x7 := X.at_ 7 rfl
                   have x8 := X.at_ 8 rfl
                   refine bodyPost_ret (v := .agg #[.int .i64 1, .string ⟨out.toArray⟩, .int .i64 0, .bool false, .int .i64 0, .int .i64 0, .int .i64 0, .int .i64 k, .int .i64 0]) (by simp [results, Tryz.results71, go_sem, x0, x1, x2, x3, x4, x5, x6, x7, x8]) rfl ?_
                   exact ⟨by rw [HF.out]; rfl, Keep.set9 HK3.out (Nat.le_refl _) _ _ _ _ _ _ _ _ _⟩)
    · obtain rfl : k = N := by omega
      have hkz : decide ((k : Int) < (s.size : Int)) = false := by simp; omega
      have HBK := Lib.hid (hkp.blk HF0.out (fun h => h))
      have HK := Lib.hid (HKW.out.trans hkp)
      have hcv := hown.str0
      clear hkp hown
      have fr0 := HBK.out.free 0
      have ce0 := HBK.out.at_ 0 rfl
      have fr1 := HBK.out.free 1
      have ce1 := HBK.out.at_ 1 rfl
      have fr2 := HBK.out.free 2
      have ce2 := HBK.out.at_ 2 rfl
      have fr3 := HBK.out.free 3
      have ce3 := HBK.out.at_ 3 rfl
      have fr4 := HBK.out.free 4
      have ce4 := HBK.out.at_ 4 rfl
      have fr5 := HBK.out.free 5
      have ce5 := HBK.out.at_ 5 rfl
      have fr6 := HBK.out.free 6
      have ce6 := HBK.out.at_ 6 rfl
      have fr7 := HBK.out.free 7
      have ce7 := HBK.out.at_ 7 rfl
      have fr8 := HBK.out.free 8
      have ce8 := HBK.out.at_ 8 rfl
      by_cases hlg : 32 < k
      · have hbt : b = true := by rw [HB.out]; simpa using hlg
        subst hbt
        have HF : Hid (tokName (bs s) = fail 3) := by show _ = _; unfold tokName; rw [← HN.out, if_neg (by omega)]
        clear hlg hcv
        go_wp2_with fail
        have X := Blk.set9 HBK.out (.int .i64 0) (.string ⟨#[]⟩) (.int .i64 0) (.bool false) (.int .i64 0) (.int .i64 0) (.int .i64 0) (.int .i64 0) (.int .i64 3)
        have x0 := X.at_ 0 rfl
        have x1 := X.at_ 1 rfl
        have x2 := X.at_ 2 rfl
        have x3 := X.at_ 3 rfl
        have x4 := X.at_ 4 rfl
        have x5 := X.at_ 5 rfl
        have x6 := X.at_ 6 rfl
        have x7 := X.at_ 7 rfl
        have x8 := X.at_ 8 rfl
        refine bodyPost_ret (v := .agg #[.int .i64 0, .string ⟨#[]⟩, .int .i64 0, .bool false, .int .i64 0, .int .i64 0, .int .i64 0, .int .i64 0, .int .i64 3]) (by simp [results, Tryz.results71, go_sem, x0, x1, x2, x3, x4, x5, x6, x7, x8]) rfl ?_
        exact ⟨by rw [HF.out]; rfl, Keep.set9 HK.out (Nat.le_refl _) _ _ _ _ _ _ _ _ _⟩
      · have hbt : b = false := by rw [HB.out]; simpa using hlg
        subst hbt
        obtain ⟨iw, hiw⟩ : ∃ iw, iw = isWord out := ⟨_, rfl⟩
        have HF : Hid (tokName (bs s) = ⟨0, if iw = true then 2 else 1, out, 0, k⟩) := by show _ = _; unfold tokName; rw [← HN.out, if_pos (by omega), ← HOUT.out, ← hiw]
        have HIS : Hid (∀ W, Calls Tryz.prog 105 #[.int .i64 0, .string ⟨out.toArray⟩] W fun e w' => e = .returned (.bool iw) ∧ Keep (fun _ => False) W w') := by
          intro W
          have := refIsAt_any ⟨out.toArray⟩ W
          rw [bs_mk, ← hiw] at this
          exact this
        have HCV := Lib.hid hcv
        clear hlg hiw hcv
        by_cases hiw : iw = true
        all_goals
          first | subst hiw | (obtain rfl : iw = false := by simpa using hiw)
          have hcv := HCV.out
          go_wp2_with fail
          refine (HIS.out _).mono ?_
          rintro e w3 ⟨rfl, hk3⟩
          have HBK3 := Lib.hid (hk3.blk HBK.out (fun h => h))
          have HK3 := Lib.hid (HK.out.trans hk3)
          have hcv3 := (HOW.out.keep hk3 (fun _ h => h.elim)).str0
          rw [← HOUT.out] at hcv3
          clear fr0 ce0 fr1 ce1 fr2 ce2 fr3 ce3 fr4 ce4 fr5 ce5 fr6 ce6 fr7 ce7 fr8 ce8
          have gr0 := HBK3.out.free 0
          have ge0 := HBK3.out.at_ 0 rfl
          have gr1 := HBK3.out.free 1
          have ge1 := HBK3.out.at_ 1 rfl
          have gr2 := HBK3.out.free 2
          have ge2 := HBK3.out.at_ 2 rfl
          have gr3 := HBK3.out.free 3
          have ge3 := HBK3.out.at_ 3 rfl
          have gr4 := HBK3.out.free 4
          have ge4 := HBK3.out.at_ 4 rfl
          have gr5 := HBK3.out.free 5
          have ge5 := HBK3.out.at_ 5 rfl
          have gr6 := HBK3.out.free 6
          have ge6 := HBK3.out.at_ 6 rfl
          have gr7 := HBK3.out.free 7
          have ge7 := HBK3.out.at_ 7 rfl
          have gr8 := HBK3.out.free 8
          have ge8 := HBK3.out.at_ 8 rfl
          clear hk3 hcv
          go_wp2_with fail
          first
          | (have X := Blk.set9 HBK3.out (.int .i64 2) (.string ⟨out.toArray⟩) (.int .i64 0) (.bool false) (.int .i64 0) (.int .i64 0) (.int .i64 0) (.int .i64 k) (.int .i64 0)
             have x0 := X.at_ 0 rfl
             have x1 := X.at_ 1 rfl
             have x2 := X.at_ 2 rfl
             have x3 := X.at_ 3 rfl
             have x4 := X.at_ 4 rfl
             have x5 := X.at_ 5 rfl
             have x6 := X.at_ 6 rfl
             have x7 := X.at_ 7 rfl
             have x8 := X.at_ 8 rfl
             refine bodyPost_ret (v := .agg #[.int .i64 2, .string ⟨out.toArray⟩, .int .i64 0, .bool false, .int .i64 0, .int .i64 0, .int .i64 0, .int .i64 k, .int .i64 0]) (by simp [results, Tryz.results71, go_sem, x0, x1, x2, x3, x4, x5, x6, x7, x8]) rfl ?_
             exact ⟨by rw [HF.out]; rfl, Keep.set9 HK3.out (Nat.le_refl _) _ _ _ _ _ _ _ _ _⟩)
          | (have X := Blk.set9 HBK3.out (.int .i64 1) (.string ⟨out.toArray⟩) (.int .i64 0) (.bool false) (.int .i64 0) (.int .i64 0) (.int .i64 0) (.int .i64 k) (.int .i64 0)
             have x0 := X.at_ 0 rfl
             have x1 := X.at_ 1 rfl
             have x2 := X.at_ 2 rfl
             have x3 := X.at_ 3 rfl
             have x4 := X.at_ 4 rfl
             have x5 := X.at_ 5 rfl
             have x6 := X.at_ 6 rfl
             have x7 := X.at_ 7 rfl
             have x8 := X.at_ 8 rfl
             refine bodyPost_ret (v := .agg #[.int .i64 1, .string ⟨out.toArray⟩, .int .i64 0, .bool false, .int .i64 0, .int .i64 0, .int .i64 0, .int .i64 k, .int .i64 0]) (by simp [results, Tryz.results71, go_sem, x0, x1, x2, x3, x4, x5, x6, x7, x8]) rfl ?_
             exact ⟨by rw [HF.out]; rfl, Keep.set9 HK3.out (Nat.le_refl _) _ _ _ _ _ _ _ _ _⟩)
end Go.Proofs.YtgmmjhelcpgakaaGreatDoor
