/- The reference's CharText, Print, Text, at Pas. -/
import Derived.Test.YtcdmkmbbliaefaaGreatDoorText1
namespace Go.Proofs.YtcdmkmbbliaefaaGreatDoor
open Go.RowKit
set_option linter.unusedVariables false
set_option linter.unusedSimpArgs false

theorem cat_ba (a b : Bs) : ((⟨a.toArray⟩ : ByteArray) ++ ⟨b.toArray⟩) = ⟨(a ++ b).toArray⟩ := ByteArray.mk_append_mk a b
set_option maxRecDepth 100000 in
set_option maxHeartbeats 4000000 in
theorem refCharText_any (n : Nat) (hn : n < 256) (w : World) :
    Calls Tryz.prog 26 #[.int .i64 0, .int .i64 (n : Int)] w fun e w' => e = .returned (.string ⟨(charL n).toArray⟩) ∧ Keep (fun _ => False) w w' := by
  have n0 : (0 : Int) ≤ (n : Int) := by omega
  have n1 : (n : Int) ≤ 255 := by omega
  by_cases h39 : n = 39
  · subst h39
    go_enter Tryz.func26, Tryz.ntmps26
    go_wp2_with fail
    go_ret
    exact ⟨rfl, Keep.refl _ _⟩
  · have t39 : ((n : Int) == 39) = false := by rw [beq_eq_false_iff_ne]; omega
    by_cases h32 : 32 ≤ n
    · have t32 : decide ((32 : Int) ≤ (n : Int)) = true := by simp; omega
      by_cases h126 : n ≤ 126
      · have t126 : decide ((n : Int) ≤ 126) = true := by simp; omega
        have HC : Hid (charL n = [39, UInt8.ofNat n, 39]) := by show _ = _; unfold charL; rw [if_neg h39, if_pos ⟨h32, h126⟩]
        obtain ⟨c, hc⟩ : ∃ c, c = UInt8.ofNat n := ⟨_, rfl⟩
        have hcn : (c.toNat : Int) = (n : Int) := by rw [hc, UInt8.toNat_ofNat']; omega
        have HCC := Lib.hid hc
        have HCN := Lib.hid hcn
        have hcv : ∀ W : World, Blk W w.heap.size #[.int .u8 (n : Int)] 5 → (convert 34 9 (.slice (some ⟨w.heap.size, 0, none⟩) 1 1)).run Tryz.prog W = .ok (.string ⟨#[c]⟩) W := by
          intro W hW
          have h1 : strOfNums [(c.toNat : Int)] = ⟨#[c]⟩ := nums_bytes [c]
          rw [← h1]
          refine run_convert_bytes_arg _ _ _ Tryz.underlying34 Tryz.underlying5 w.heap.size 0 1 1 [(c.toNat : Int)] rfl (fun i hi => ?_) _ Tryz.underlying9
          obtain rfl : i = 0 := by omega
          rw [hcn]; exact hW.at_ 0 rfl
        have HCV := Lib.hid (hcv _ (Blk.new w _ _))
        have hcv2 := HCV.out
        have a1 : ∀ W : World, (Op.stringOp .add ⟨#[39]⟩ ⟨#[c]⟩).run Tryz.prog W = .ok (.string ⟨#[39, c]⟩) W := fun W => run_string_add_sum (P := Tryz.prog) W ⟨#[39]⟩ ⟨#[c]⟩ (by show 1 + 1 ≤ 9223372036854775807; omega)
        have a2 : ∀ W : World, (Op.stringOp .add ⟨#[39, c]⟩ ⟨#[39]⟩).run Tryz.prog W = .ok (.string ⟨#[39, c, 39]⟩) W := fun W => run_string_add_sum (P := Tryz.prog) W ⟨#[39, c]⟩ ⟨#[39]⟩ (by show 2 + 1 ≤ 9223372036854775807; omega)
        clear hcv hc hcn
        go_enter Tryz.func26, Tryz.ntmps26
        go_wp2_with fail
        go_ret
        have hfin : (⟨(charL n).toArray⟩ : ByteArray) = ⟨#[39, c, 39]⟩ := by rw [HC.out, ← HCC.out]
        exact ⟨by rw [hfin]; rfl, (Keep.refl _ w).alloc _⟩
      · have t126 : decide ((n : Int) ≤ 126) = false := by simp; omega
        have HC : Hid (charL n = 35 :: digL n) := by show _ = _; unfold charL; rw [if_neg h39, if_neg (by omega)]
        have HDG := Lib.hid (fun W => refDigits_str n (by omega) W)
        obtain ⟨D, hD⟩ : ∃ D : ByteArray, D = ⟨(digL n).toArray⟩ := ⟨_, rfl⟩
        rw [← hD] at HDG
        have hDl : D.size ≤ 19 := by
          rw [hD]; show (digL n).toArray.size ≤ 19
          rw [List.size_toArray]; exact digL_len 19 n (by omega) (by omega)
        have a1 : ∀ W : World, (Op.stringOp .add ⟨#[35]⟩ D).run Tryz.prog W = .ok (.string (⟨#[35]⟩ ++ D)) W := fun W => run_string_add_sum (P := Tryz.prog) W ⟨#[35]⟩ D (by show 1 + D.size ≤ 9223372036854775807; omega)
        have HDD := Lib.hid hD
        clear hD hDl
        go_enter Tryz.func26, Tryz.ntmps26
        go_wp2_with fail
        refine (HDG.out _).mono ?_
        rintro e w2 ⟨rfl, q, rfl⟩
        go_wp2_with fail
        go_ret
        have hfin : (⟨(charL n).toArray⟩ : ByteArray) = ⟨#[35]⟩ ++ D := by rw [HC.out, HDD.out]; exact (cat_ba [35] (digL n)).symm
        exact ⟨by rw [hfin]; rfl, (Keep.refl _ w).drewN q⟩
    · have t32 : decide ((32 : Int) ≤ (n : Int)) = false := by simp; omega
      have HC : Hid (charL n = 35 :: digL n) := by show _ = _; unfold charL; rw [if_neg h39, if_neg (by omega)]
      have HDG := Lib.hid (fun W => refDigits_str n (by omega) W)
      obtain ⟨D, hD⟩ : ∃ D : ByteArray, D = ⟨(digL n).toArray⟩ := ⟨_, rfl⟩
      rw [← hD] at HDG
      have hDl : D.size ≤ 19 := by
        rw [hD]; show (digL n).toArray.size ≤ 19
        rw [List.size_toArray]; exact digL_len 19 n (by omega) (by omega)
      have a1 : ∀ W : World, (Op.stringOp .add ⟨#[35]⟩ D).run Tryz.prog W = .ok (.string (⟨#[35]⟩ ++ D)) W := fun W => run_string_add_sum (P := Tryz.prog) W ⟨#[35]⟩ D (by show 1 + D.size ≤ 9223372036854775807; omega)
      have HDD := Lib.hid hD
      clear hD hDl
      go_enter Tryz.func26, Tryz.ntmps26
      go_wp2_with fail
      refine (HDG.out _).mono ?_
      rintro e w2 ⟨rfl, q, rfl⟩
      go_wp2_with fail
      go_ret
      have hfin : (⟨(charL n).toArray⟩ : ByteArray) = ⟨#[35]⟩ ++ D := by rw [HC.out, HDD.out]; exact (cat_ba [35] (digL n)).symm
      exact ⟨by rw [hfin]; rfl, (Keep.refl _ w).drewN q⟩

set_option maxRecDepth 100000 in
set_option maxHeartbeats 8000000 in
theorem refPrint_any (s : ByteArray) (w : World) (hs : s.size ≤ 100000) :
    Calls Tryz.prog 27 #[.int .i64 0, .string s] w fun e w' => e = .returned (.string ⟨(noteL (bs s)).toArray⟩) ∧ Keep (fun _ => False) w w' := by
  obtain ⟨i0, hi, hz0, hz1, hz2⟩ := info_parts info_u8
  go_enter Tryz.func27, Tryz.ntmps27
  go_wp2_with (at_builtin; refine wpList_append_own _ rfl _ _ 34 rfl w.heap.size 5 i0 (.int .u8 0) 1 1 Tryz.underlying34 hi hz0 hz1 hz2 rfl (by decide) (.slice none 0 0) 0 [] rfl ((OwnBytes.nil w w.heap.size).alloc _) _ 1 1 [.int .u8 (123)] rfl rfl ?c1A0 ?c2A0 ?c3A0 ?c4A0 ?c5A0 ?_)
  case c1A0 =>
    intro j u hj
    match j, hj with
    | 0, hj => simp at hj; subst hj; simp only [Addr.add]; exact Blk.at_ (Blk.new _ _ _) 0 rfl
  case c2A0 => intro u hu; simp at hu; subst hu; rfl
  case c3A0 => unfold maxLen; decide
  case c4A0 => decide
  case c5A0 => simp
  · intro v' w1 hown' hgrow _
    have hk3 : Keep (fun _ => False) w w1 := ((Keep.refl _ w).alloc _).grown hgrow (by intro q hq hlt; simp [Value.ownBlock] at hq)
    have HOW := Lib.hid (show OwnBytes w1 w.heap.size v' [123] from OwnBytes.snoc (l := []) (by simpa using hown'))
    have HKW := Lib.hid hk3
    clear hown' hgrow hk3
    go_wp2_with fail
    go_loopw [5, 6] (fun o i wr => ∃ (k : Nat) (out : Bs), i = .int .i64 k ∧ k ≤ s.size ∧ out.length ≤ 1 + 2 * k ∧ OwnBytes wr w.heap.size o out ∧ Keep (fun _ => False) w wr ∧ Hid (out ++ escL ((bs s).drop k) = 123 :: escL (bs s))) (fun _ i _ => s.size - (intOf i).toNat)
    case atStart => exact ⟨0, [123], rfl, Nat.zero_le _, by simp, HOW.out, HKW.out, rfl⟩
    case round =>
      obtain ⟨k, out, rfl, hk, hol, hown, hkp, HG⟩ := hrel
      obtain ⟨oA, oc, rfl⟩ := hown.form
      by_cases hks : k < s.size
      · have j0 : (0 : Int) ≤ (k : Int) := by omega
        have j1 : (k : Int) < (s.size : Int) := by omega
        obtain ⟨c, hc⟩ : ∃ c, c = s[k] := ⟨_, rfl⟩
        have hix : ∀ (h : k < s.size), ((s[k]'h).toNat : Int) = (c.toNat : Int) := fun h => by rw [hc]
        have HD : Hid ((bs s).drop k = c :: (bs s).drop (k + 1)) := by rw [hc]; exact bs_drop s k hks
        clear hc
        by_cases h2 : c = 92 ∨ c = 125
        · have hcs : ((c.toNat : Int) == 92) = true ∨ (((c.toNat : Int) == 92) = false ∧ ((c.toNat : Int) == 125) = true) := by
            rcases h2 with rfl | rfl
            · exact .inl rfl
            · exact .inr ⟨rfl, rfl⟩
          have HG2 : Hid ((out ++ [92]) ++ [c] ++ escL ((bs s).drop (k + 1)) = 123 :: escL (bs s)) := by
            show _ = _
            have := HG.out
            rw [HD.out, escL, if_pos h2] at this
            rw [← this]; simp
          clear h2
          rcases hcs with t1 | ⟨t1, t2⟩
          all_goals
            go_wp2_with (at_builtin; refine wpList_append_own _ rfl _ _ 34 rfl w.heap.size 5 i0 (.int .u8 0) 1 1 Tryz.underlying34 hi hz0 hz1 hz2 rfl (by decide) _ _ _ rfl (hown.alloc _) _ 1 1 [.int .u8 (92)] rfl rfl ?c1B1 ?c2B1 ?c3B1 ?c4B1 ?c5B1 ?_)
            case c1B1 =>
              intro j u hj
              match j, hj with
              | 0, hj => simp at hj; subst hj; simp only [Addr.add]; exact Blk.at_ (Blk.new _ _ _) 0 rfl
            case c2B1 => intro u hu; simp at hu; subst hu; rfl
            case c3B1 => unfold maxLen; omega
            case c4B1 => omega
            case c5B1 => have := (hkp).size; simp; omega
            · intro v5 w5 hown5 hgrow5 _
              have hk5 : Keep (fun _ => False) w w5 := ((hkp).alloc _).grown hgrow5 (by
                intro q hq hlt
                have h4 := (World.ownsRow.lt (show World.ownsRow _ _ _ _ _ _ _ from hown) q hq).1
                omega)
              have ho5 : OwnBytes w5 w.heap.size v5 (out ++ [92]) := OwnBytes.snoc (by simpa using hown5)
              clear hown5 hgrow5
              obtain ⟨oA5, oc5, rfl⟩ := ho5.form
              have hl5 : (out ++ [92]).length ≤ 2 + 2 * k := by simp; omega
              obtain ⟨out5, HO5⟩ : ∃ out5, Hid (out5 = out ++ [92]) := ⟨_, Lib.hid rfl⟩
              rw [← HO5.out] at ho5 hl5 ⊢
              go_wp2_with (at_builtin; refine wpList_append_own _ rfl _ _ 34 rfl w.heap.size 5 i0 (.int .u8 0) 1 1 Tryz.underlying34 hi hz0 hz1 hz2 rfl (by decide) _ _ _ rfl (ho5.alloc _) _ 1 1 [.int .u8 (c.toNat : Int)] rfl rfl ?c1B2 ?c2B2 ?c3B2 ?c4B2 ?c5B2 ?_)
              case c1B2 =>
                intro j u hj
                match j, hj with
                | 0, hj => simp at hj; subst hj; simp only [Addr.add]; exact Blk.at_ (Blk.new _ _ _) 0 rfl
              case c2B2 => intro u hu; simp at hu; subst hu; rfl
              case c3B2 => unfold maxLen; omega
              case c4B2 => omega
              case c5B2 => have := (hk5).size; simp; omega
              · intro v7 w7 hown7 hgrow7 _
                have hk7 : Keep (fun _ => False) w w7 := ((hk5).alloc _).grown hgrow7 (by
                  intro q hq hlt
                  have h4 := (World.ownsRow.lt (show World.ownsRow _ _ _ _ _ _ _ from ho5) q hq).1
                  omega)
                have ho7 : OwnBytes w7 w.heap.size v7 (out5 ++ [c]) := OwnBytes.snoc (by simpa using hown7)
                clear hown7 hgrow7
                have HG3 : Hid (out5 ++ [c] ++ escL ((bs s).drop (k + 1)) = 123 :: escL (bs s)) := by rw [HO5.out]; exact HG2.out
                go_wp2_with fail
                go_roundw
                case rel => exact ⟨k + 1, out5 ++ [c], by go_num, by omega, by simp; omega, ho7, hk7, HG3⟩
                case measure => simp [intOf]; omega
        · have t1 : ((c.toNat : Int) == 92) = false := u8_ne (d := 92) (fun h => h2 (.inl h))
          have t2 : ((c.toNat : Int) == 125) = false := u8_ne (d := 125) (fun h => h2 (.inr h))
          have HG2 : Hid (out ++ [c] ++ escL ((bs s).drop (k + 1)) = 123 :: escL (bs s)) := by
            show _ = _
            have := HG.out
            rw [HD.out, escL, if_neg h2] at this
            rw [← this]; simp
          clear h2
          go_wp2_with (at_builtin; refine wpList_append_own _ rfl _ _ 34 rfl w.heap.size 5 i0 (.int .u8 0) 1 1 Tryz.underlying34 hi hz0 hz1 hz2 rfl (by decide) _ _ _ rfl (hown.alloc _) _ 1 1 [.int .u8 (c.toNat : Int)] rfl rfl ?c1B3 ?c2B3 ?c3B3 ?c4B3 ?c5B3 ?_)
          case c1B3 =>
            intro j u hj
            match j, hj with
            | 0, hj => simp at hj; subst hj; simp only [Addr.add]; exact Blk.at_ (Blk.new _ _ _) 0 rfl
          case c2B3 => intro u hu; simp at hu; subst hu; rfl
          case c3B3 => unfold maxLen; omega
          case c4B3 => omega
          case c5B3 => have := (hkp).size; simp; omega
          · intro v8 w8 hown8 hgrow8 _
            have hk8 : Keep (fun _ => False) w w8 := ((hkp).alloc _).grown hgrow8 (by
              intro q hq hlt
              have h4 := (World.ownsRow.lt (show World.ownsRow _ _ _ _ _ _ _ from hown) q hq).1
              omega)
            have ho8 : OwnBytes w8 w.heap.size v8 (out ++ [c]) := OwnBytes.snoc (by simpa using hown8)
            clear hown8 hgrow8
            go_wp2_with fail
            go_roundw
            case rel => exact ⟨k + 1, out ++ [c], by go_num, by omega, by simp; omega, ho8, hk8, HG2⟩
            case measure => simp [intOf]; omega
      · obtain rfl : k = s.size := by omega
        have HG2 : Hid (out = 123 :: escL (bs s)) := by
          show _ = _
          have := HG.out
          rw [bs_drop_end s s.size (Nat.le_refl _), escL, List.append_nil] at this
          exact this
        have tk : decide (s.size < s.size) = false := by simp
        go_wp2_with (at_builtin; refine wpList_append_own _ rfl _ _ 34 rfl w.heap.size 5 i0 (.int .u8 0) 1 1 Tryz.underlying34 hi hz0 hz1 hz2 rfl (by decide) _ _ _ rfl (hown.alloc _) _ 1 1 [.int .u8 (125)] rfl rfl ?c1B4 ?c2B4 ?c3B4 ?c4B4 ?c5B4 ?_)
        case c1B4 =>
          intro j u hj
          match j, hj with
          | 0, hj => simp at hj; subst hj; simp only [Addr.add]; exact Blk.at_ (Blk.new _ _ _) 0 rfl
        case c2B4 => intro u hu; simp at hu; subst hu; rfl
        case c3B4 => unfold maxLen; omega
        case c4B4 => omega
        case c5B4 => have := (hkp).size; simp; omega
        · intro v9 w9 hown9 hgrow9 _
          have hk9 : Keep (fun _ => False) w w9 := ((hkp).alloc _).grown hgrow9 (by
            intro q hq hlt
            have h4 := (World.ownsRow.lt (show World.ownsRow _ _ _ _ _ _ _ from hown) q hq).1
            omega)
          have ho9 : OwnBytes w9 w.heap.size v9 (out ++ [125]) := OwnBytes.snoc (by simpa using hown9)
          clear hown9 hgrow9
          obtain ⟨out9, HO9⟩ : ∃ out9, Hid (out9 = out ++ [125]) := ⟨_, Lib.hid rfl⟩
          rw [← HO9.out] at ho9
          obtain ⟨o9, oc9, rfl⟩ := ho9.form
          have hcv := ho9.str0
          have hfin : (⟨(noteL (bs s)).toArray⟩ : ByteArray) = ⟨out9.toArray⟩ := by rw [HO9.out]; unfold noteL; rw [HG2.out]; rfl
          go_wp2_with fail
          go_ret
          exact ⟨by rw [hfin]; rfl, hk9⟩
end Go.Proofs.YtcdmkmbbliaefaaGreatDoor
