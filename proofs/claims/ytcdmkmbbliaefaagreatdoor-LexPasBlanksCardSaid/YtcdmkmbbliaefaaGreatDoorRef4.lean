/- The reference's Read, at Pas. -/
import Derived.Test.YtcdmkmbbliaefaaGreatDoorRef3
namespace Go.Proofs.YtcdmkmbbliaefaaGreatDoor
open Go.RowKit
set_option linter.unusedVariables false
set_option linter.unusedSimpArgs false

set_option maxRecDepth 100000 in
set_option maxHeartbeats 4000000 in
theorem refRead_any (s : ByteArray) (w : World) (hs : s.size ≤ 140737488351232) :
    Calls Tryz.prog 40 #[.int .i64 0, .string s] w fun e w' => e = .returned (readV (noteRead (bs s))) ∧ Keep (fun _ => False) w w' := by
  obtain ⟨R, hR⟩ : ∃ R, R = noteRead (bs s) := ⟨_, rfl⟩
  rw [← hR]
  obtain ⟨B, hB⟩ : ∃ B, B = noteBegins (bs s) := ⟨_, rfl⟩
  have BC := fun w => refBegins_any s w
  rw [← hB] at BC
  by_cases hb : B = true
  · subst hb
    have HR := Lib.hid hR; have HB := Lib.hid hB
    clear hR hB
    go_enter Tryz.func40, Tryz.ntmps40
    go_wp2_with fail
    refine (BC _).mono ?_
    clear BC
    rintro e w2 ⟨rfl, rfl⟩
    go_wp2_with fail
    go_loopw [7, 8] (fun o i wr => ∃ (k : Nat) (out : Bs), i = .int .i64 k ∧ 1 ≤ k ∧ k ≤ s.size ∧ out.length ≤ 1024 ∧ OwnBytes wr w2.heap.size o out ∧ Keep (fun _ => False) w2 wr ∧ Hid (noteGo ((bs s).drop k) out k = R)) (fun _ i _ => s.size - (intOf i).toNat)
    case atStart =>
      have hnb : noteBegins (bs s) = true := HB.out.symm
      have hne : 1 ≤ s.size := by
        rcases Nat.eq_zero_or_pos s.size with h0 | h0
        · exfalso
          have h1 : bs s = [] := List.eq_nil_of_length_eq_zero (by rw [bs_len]; exact h0)
          rw [h1] at hnb; exact absurd hnb (by decide)
        · exact h0
      exact ⟨1, [], rfl, Nat.le_refl _, hne, by simp, OwnBytes.nil _ _, Keep.refl _ _, by rw [HR.out]; unfold noteRead; rw [if_pos hnb]; rfl⟩
    case round =>
      obtain ⟨w, rfl⟩ : ∃ w : World, w = w2 := ⟨_, rfl⟩
      obtain ⟨k, out, rfl, hk1, hk, hol, hown, hkp, HG⟩ := hrel
      obtain ⟨oA, oc, rfl⟩ := hown.form
      by_cases hlt : k < s.size
      · have hd := bs_drop s k hlt
        have hi0 : (0 : Int) ≤ (k : Int) := by omega
        have hi1 : (k : Int) < (s.size : Int) := by omega
        obtain ⟨c, hcc⟩ : ∃ c, c = s[k] := ⟨_, rfl⟩
        have HD' : Hid ((bs s).drop k = c :: (bs s).drop (k + 1)) := by rw [hcc]; exact hd
        have hix : ∀ (h : k < s.size), ((s[k]'h).toNat : Int) = (c.toNat : Int) := fun h => by rw [hcc]
        clear hd hcc
        by_cases c1 : c = 125
        · have t1 : ((c.toNat : Int) == 125) = true := by subst c1; rfl
          have C1 := Lib.hid c1; clear c1
          have hcv := hown.str0
          have hko : (k : Int) + 1 ≤ 9223372036854775807 := by omega
          go_wp2_with fail
          go_ret3
          have hr := HG.out
          rw [HD'.out, C1.out, noteGo_end] at hr
          exact ⟨by rw [← hr]; rfl, hkp⟩
        · have t1 : ((c.toNat : Int) == 125) = false := by
            rw [beq_eq_false_iff_ne]; intro h
            exact c1 (by apply UInt8.toNat_inj.1; show c.toNat = 125; omega)
          have C1 := Lib.hid c1; clear c1
          by_cases c2 : c = 92
          · have t2 : ((c.toNat : Int) == 92) = true := by subst c2; rfl
            have C2 := Lib.hid c2; clear c2
            by_cases hl2 : k + 1 < s.size
            · have e2 : (((k : Int) + 1) == (s.size : Int)) = false := by rw [beq_eq_false_iff_ne]; omega
              have hj0 : (0 : Int) ≤ (k : Int) + 1 := by omega
              have hj1 : (k : Int) + 1 < (s.size : Int) := by omega
              obtain ⟨d, hdd⟩ : ∃ d, d = s[k + 1] := ⟨_, rfl⟩
              have HD2 : Hid ((bs s).drop (k + 1) = d :: (bs s).drop (k + 2)) := by rw [hdd]; exact bs_drop s (k + 1) hl2
              have hix2 : ∀ (h : k + 1 < s.size), ((s[k + 1]'h).toNat : Int) = (d.toNat : Int) := fun h => by rw [hdd]
              clear hdd
              by_cases c3 : d = 92 ∨ d = 125
              · have hrt : rightB d = true := by rcases c3 with rfl | rfl <;> decide
                have HRT := Lib.hid hrt; have C3 := Lib.hid c3
                have q1 : ((d.toNat : Int) == 92) = decide (d = 92) := by rcases c3 with rfl | rfl <;> rfl
                have q2 : d ≠ 92 → ((d.toNat : Int) == 125) = true := fun h => by rcases c3 with rfl | rfl; exact absurd rfl h; rfl
                by_cases d92 : d = 92
                · have t3 : ((d.toNat : Int) == 92) = true := by subst d92; rfl
                  have t3' : ((d.toNat : Int) != 92) = false := by unfold bne; rw [t3]; rfl
                  clear hrt c3 q1 q2 d92
                  by_cases ho : out.length = 1024
                  · have hot : ((out.length : Int) == 1024) = true := by simp; omega
                    have HO := Lib.hid ho; clear ho
                    go_wp2_with fail
                    refine (refRight_any d _).mono ?_
                    rintro e w3 ⟨rfl, rfl⟩
                    rw [HRT.out]
                    go_wp2_with fail
                    go_ret3
                    have hr := HG.out
                    rw [HD'.out, C2.out, HD2.out, noteGo_bs_full _ _ _ _ C3.out HO.out] at hr
                    exact ⟨by rw [← hr]; rfl, hkp⟩
                  · have hot : ((out.length : Int) == 1024) = false := by rw [beq_eq_false_iff_ne]; omega
                    have hol' : out.length < 1024 := by omega
                    have HO := Lib.hid ho; clear ho
                    obtain ⟨i0, hi, hz0, hz1, hz2⟩ := info_parts info_u8
                    go_wp2_with fail
                    refine (refRight_any d _).mono ?_
                    rintro e w3 ⟨rfl, rfl⟩
                    rw [HRT.out]
                    go_wp2_with (at_builtin; refine wpList_append_own _ rfl _ _ 34 rfl w.heap.size 5 i0 (.int .u8 0) 1 1 Tryz.underlying34 hi hz0 hz1 hz2 rfl (by decide) _ _ _ rfl (hown.alloc _) _ 1 1 [.int .u8 (d.toNat : Int)] rfl rfl ?c1d ?c2d ?c3d ?c4d ?c5d ?_)
                    case c1d =>
                      intro j u hj
                      match j, hj with
                      | 0, hj => simp at hj; subst hj; simp only [Addr.add]; exact Blk.at_ (Blk.new _ _ _) 0 rfl
                    case c2d => intro u hu; simp at hu; subst hu; rfl
                    case c3d => unfold maxLen; omega
                    case c4d => omega
                    case c5d => have := hkp.size; simp; omega
                    · intro v' w1 hown' hgrow _
                      have hk3 : Keep (fun _ => False) w w1 := (hkp.alloc _).grown hgrow (by
                        intro q hq hlt
                        have h4 := (World.ownsRow.lt (show World.ownsRow _ _ _ _ _ _ _ from hown) q hq).1
                        omega)
                      have ho3 : OwnBytes w1 w.heap.size v' (out ++ [d]) := OwnBytes.snoc (by simpa using hown')
                      have hr3 : Hid (noteGo ((bs s).drop (k + 2)) (out ++ [d]) (k + 2) = R) := by
                        have hr := HG.out
                        rw [HD'.out, C2.out, HD2.out, noteGo_bs _ _ _ _ C3.out HO.out] at hr
                        exact hr
                      clear hown' hgrow hown hkp
                      go_wp2_with fail
                      go_roundw
                      case rel => exact ⟨k + 2, out ++ [d], by go_num, by omega, by omega, by simp; omega, ho3, hk3, hr3⟩
                      case measure => simp [intOf]; omega
                · have t3 : ((d.toNat : Int) == 92) = false := by rw [q1]; exact decide_eq_false d92
                  have t3' : ((d.toNat : Int) != 92) = true := by unfold bne; rw [t3]; rfl
                  have t4 : ((d.toNat : Int) == 125) = true := q2 d92
                  clear hrt c3 q1 q2 d92
                  by_cases ho : out.length = 1024
                  · have hot : ((out.length : Int) == 1024) = true := by simp; omega
                    have HO := Lib.hid ho; clear ho
                    go_wp2_with fail
                    refine (refRight_any d _).mono ?_
                    rintro e w3 ⟨rfl, rfl⟩
                    rw [HRT.out]
                    go_wp2_with fail
                    go_ret3
                    have hr := HG.out
                    rw [HD'.out, C2.out, HD2.out, noteGo_bs_full _ _ _ _ C3.out HO.out] at hr
                    exact ⟨by rw [← hr]; rfl, hkp⟩
                  · have hot : ((out.length : Int) == 1024) = false := by rw [beq_eq_false_iff_ne]; omega
                    have hol' : out.length < 1024 := by omega
                    have HO := Lib.hid ho; clear ho
                    obtain ⟨i0, hi, hz0, hz1, hz2⟩ := info_parts info_u8
                    go_wp2_with fail
                    refine (refRight_any d _).mono ?_
                    rintro e w3 ⟨rfl, rfl⟩
                    rw [HRT.out]
                    go_wp2_with (at_builtin; refine wpList_append_own _ rfl _ _ 34 rfl w.heap.size 5 i0 (.int .u8 0) 1 1 Tryz.underlying34 hi hz0 hz1 hz2 rfl (by decide) _ _ _ rfl (hown.alloc _) _ 1 1 [.int .u8 (d.toNat : Int)] rfl rfl ?x1d ?x2d ?x3d ?x4d ?x5d ?_)
                    case x1d =>
                      intro j u hj
                      match j, hj with
                      | 0, hj => simp at hj; subst hj; simp only [Addr.add]; exact Blk.at_ (Blk.new _ _ _) 0 rfl
                    case x2d => intro u hu; simp at hu; subst hu; rfl
                    case x3d => unfold maxLen; omega
                    case x4d => omega
                    case x5d => have := hkp.size; simp; omega
                    · intro v' w1 hown' hgrow _
                      have hk3 : Keep (fun _ => False) w w1 := (hkp.alloc _).grown hgrow (by
                        intro q hq hlt
                        have h4 := (World.ownsRow.lt (show World.ownsRow _ _ _ _ _ _ _ from hown) q hq).1
                        omega)
                      have ho3 : OwnBytes w1 w.heap.size v' (out ++ [d]) := OwnBytes.snoc (by simpa using hown')
                      have hr3 : Hid (noteGo ((bs s).drop (k + 2)) (out ++ [d]) (k + 2) = R) := by
                        have hr := HG.out
                        rw [HD'.out, C2.out, HD2.out, noteGo_bs _ _ _ _ C3.out HO.out] at hr
                        exact hr
                      clear hown' hgrow hown hkp
                      go_wp2_with fail
                      go_roundw
                      case rel => exact ⟨k + 2, out ++ [d], by go_num, by omega, by omega, by simp; omega, ho3, hk3, hr3⟩
                      case measure => simp [intOf]; omega
              · have t3 : ((d.toNat : Int) == 92) = false := by
                  rw [beq_eq_false_iff_ne]; intro h
                  exact c3 (.inl (by apply UInt8.toNat_inj.1; show d.toNat = 92; omega))
                have t3' : ((d.toNat : Int) != 92) = true := by unfold bne; rw [t3]; rfl
                have t4 : ((d.toNat : Int) == 125) = false := by
                  rw [beq_eq_false_iff_ne]; intro h
                  exact c3 (.inr (by apply UInt8.toNat_inj.1; show d.toNat = 125; omega))
                have C3 := Lib.hid c3; clear c3
                go_wp2_with fail
                go_ret3
                have hr := HG.out
                rw [HD'.out, C2.out, HD2.out, noteGo_bs_bad _ _ _ _ C3.out] at hr
                exact ⟨by rw [← hr]; rfl, hkp⟩
            · have e2 : (((k : Int) + 1) == (s.size : Int)) = true := by rw [beq_iff_eq]; omega
              have HE : Hid ((bs s).drop (k + 1) = []) := bs_drop_end s (k + 1) (by omega)
              go_wp2_with fail
              go_ret3
              have hr := HG.out
              rw [HD'.out, C2.out, HE.out, noteGo_bs0] at hr
              exact ⟨by rw [← hr]; rfl, hkp⟩
          · have t2 : ((c.toNat : Int) == 92) = false := by
              rw [beq_eq_false_iff_ne]; intro h
              exact c2 (by apply UInt8.toNat_inj.1; show c.toNat = 92; omega)
            have C2 := Lib.hid c2; clear c2
            obtain ⟨rb, hrb⟩ : ∃ rb, rb = rightB c := ⟨_, rfl⟩
            by_cases hrt0 : rb = true
            · subst hrt0
              have HRT : Hid (rightB c = true) := hrb.symm
              clear hrb
              by_cases ho : out.length = 1024
              · have hot : ((out.length : Int) == 1024) = true := by simp; omega
                have HO := Lib.hid ho; clear ho
                go_wp2_with fail
                refine (refRight_any c _).mono ?_
                rintro e w3 ⟨rfl, rfl⟩
                rw [HRT.out]
                go_wp2_with fail
                go_ret3
                have hr := HG.out
                rw [HD'.out, noteGo_full _ _ _ _ C1.out C2.out HRT.out HO.out] at hr
                exact ⟨by rw [← hr]; rfl, hkp⟩
              · have hot : ((out.length : Int) == 1024) = false := by rw [beq_eq_false_iff_ne]; omega
                have hol' : out.length < 1024 := by omega
                have HO := Lib.hid ho; clear ho
                obtain ⟨i0, hi, hz0, hz1, hz2⟩ := info_parts info_u8
                go_wp2_with fail
                refine (refRight_any c _).mono ?_
                rintro e w3 ⟨rfl, rfl⟩
                rw [HRT.out]
                go_wp2_with (at_builtin; refine wpList_append_own _ rfl _ _ 34 rfl w.heap.size 5 i0 (.int .u8 0) 1 1 Tryz.underlying34 hi hz0 hz1 hz2 rfl (by decide) _ _ _ rfl (hown.alloc _) _ 1 1 [.int .u8 (c.toNat : Int)] rfl rfl ?c1c ?c2c ?c3c ?c4c ?c5c ?_)
                case c1c =>
                  intro j u hj
                  match j, hj with
                  | 0, hj => simp at hj; subst hj; simp only [Addr.add]; exact Blk.at_ (Blk.new _ _ _) 0 rfl
                case c2c => intro u hu; simp at hu; subst hu; rfl
                case c3c => unfold maxLen; omega
                case c4c => omega
                case c5c => have := hkp.size; simp; omega
                · intro v' w1 hown' hgrow _
                  have hk3 : Keep (fun _ => False) w w1 := (hkp.alloc _).grown hgrow (by
                    intro q hq hlt
                    have h4 := (World.ownsRow.lt (show World.ownsRow _ _ _ _ _ _ _ from hown) q hq).1
                    omega)
                  have ho3 : OwnBytes w1 w.heap.size v' (out ++ [c]) := OwnBytes.snoc (by simpa using hown')
                  have hr3 : Hid (noteGo ((bs s).drop (k + 1)) (out ++ [c]) (k + 1) = R) := by
                    have hr := HG.out
                    rw [HD'.out, noteGo_go _ _ _ _ C1.out C2.out HRT.out HO.out] at hr
                    exact hr
                  clear hown' hgrow hown hkp
                  go_wp2_with fail
                  go_roundw
                  case rel => exact ⟨k + 1, out ++ [c], by go_num, by omega, by omega, by simp; omega, ho3, hk3, hr3⟩
                  case measure => simp [intOf]; omega
            · have HRT : Hid (rightB c = false) := by show rightB c = false; rw [← hrb]; simpa using hrt0
              clear hrb hrt0
              go_wp2_with fail
              refine (refRight_any c _).mono ?_
              rintro e w3 ⟨rfl, rfl⟩
              rw [HRT.out]
              go_wp2_with fail
              go_ret3
              have hr := HG.out
              rw [HD'.out, noteGo_bad _ _ _ _ C1.out C2.out HRT.out] at hr
              exact ⟨by rw [← hr]; rfl, hkp⟩
      · have hlt' : decide ((k : Int) < (s.size : Int)) = false := by simp; omega
        have HE : Hid ((bs s).drop k = []) := bs_drop_end s k (by omega)
        go_wp2_with fail
        go_ret3
        have hr := HG.out
        rw [HE.out, noteGo_nil] at hr
        exact ⟨by rw [← hr]; rfl, hkp⟩
  · have hbf : B = false := by simpa using hb
    subst hbf
    have HR := Lib.hid hR; have HB := Lib.hid hB
    clear hR hB hb
    go_enter Tryz.func40, Tryz.ntmps40
    go_wp2_with fail
    refine (BC _).mono ?_
    clear BC
    rintro e w2 ⟨rfl, rfl⟩
    go_wp2_with fail
    go_ret3
    refine ⟨?_, Keep.refl _ _⟩
    rw [HR.out]; unfold noteRead; rw [if_neg (by rw [← HB.out]; decide)]; rfl
end Go.Proofs.YtcdmkmbbliaefaaGreatDoor
