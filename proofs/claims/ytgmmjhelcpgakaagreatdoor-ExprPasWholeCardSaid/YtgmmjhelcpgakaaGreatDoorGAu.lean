/- The reference's Read, at Pas. -/
import Derived.Test.YtgmmjhelcpgakaaGreatDoorGD
import Derived.Test.YtgmmjhelcpgakaaGreatDoorGAt
namespace Go.Proofs.YtgmmjhelcpgakaaGreatDoor
open Go.RowKit
set_option linter.unusedVariables false
set_option linter.unusedSimpArgs false

set_option maxRecDepth 100000 in
set_option maxHeartbeats 4000000 in
theorem refRead_any (s : ByteArray) (w : World) (hs : s.size ≤ 140737488351232) :
    Calls Tryz.prog 70 #[.int .i64 0, .string s] w fun e w' => e = .returned (readV (noteRead (bs s))) ∧ Keep (fun _ => False) w w' := by
  obtain ⟨R, hR⟩ : ∃ R, R = noteRead (bs s) := ⟨_, rfl⟩
  rw [← hR]
  obtain ⟨B, hB⟩ : ∃ B, B = noteBegins (bs s) := ⟨_, rfl⟩
  have BC := fun w => refBegins_any s w
  rw [← hB] at BC
  by_cases hb : B = true
  · subst hb
    have HR := Lib.hid hR; have HB := Lib.hid hB
    clear hR hB
    go_enter Tryz.func70, Tryz.ntmps70
    go_wp2_with fail
    refine (BC _).mono ?_
    clear BC
    rintro e w2 ⟨rfl, rfl⟩
    go_wp2_with fail
    go_loopw [7, 8] (fun o i wr => ∃ (k : Nat) (out : Bs), i = .int .i64 k ∧ 1 ≤ k ∧ k ≤ s.size ∧ out.length ≤ 1024 ∧ OwnBytes wr w2.heap.size o out ∧ Keep (fun _ => False) w2 wr ∧ Hid (noteGo ((bs s).drop k) out k = R)) (fun _ i _ => s.size - (intOf i).toNat)
    case atStart =>
      have hnb : noteBegins (bs s) = true := HB.out.symm
      have hne : 1 ≤ s.size := by
        rcases Nat.eq_zero_or_pos s.size with h0 | h0
        · exfalso
          have h1 : bs s = [] := List.eq_nil_of_length_eq_zero (by rw [bs_len]; exact h0)
          rw [h1] at hnb; exact absurd hnb (by decide)
        · exact h0
      exact ⟨1, [], rfl, Nat.le_refl _, hne, by simp, OwnBytes.nil _ _, Keep.refl _ _, by rw [HR.out]; unfold noteRead; rw [if_pos hnb]; rfl⟩
    case round =>
      obtain ⟨w, rfl⟩ : ∃ w : World, w = w2 := ⟨_, rfl⟩
      obtain ⟨k, out, rfl, hk1, hk, hol, hown, hkp, HG⟩ := hrel
      obtain ⟨oA, oc, rfl⟩ := hown.form
      by_cases hlt : k < s.size
      · have hd := bs_drop s k hlt
        have hi0 : (0 : Int) ≤ (k : Int) := by omega
        have hi1 : (k : Int) < (s.size : Int) := by omega
        obtain ⟨c, hcc⟩ : ∃ c, c = s[k] := ⟨_, rfl⟩
        have HD' : Hid ((bs s).drop k = c :: (bs s).drop (k + 1)) := by rw [hcc]; exact hd
        have hix : ∀ (h : k < s.size), ((s[k]'h).toNat : Int) = (c.toNat : Int) := fun h => by rw [hcc]
        clear hd hcc
        by_cases c1 : c = 125
        · have t1 : ((c.toNat : Int) == 125) = true := by subst c1; rfl
          have C1 := Lib.hid c1; clear c1
          have hcv := hown.str0
          have hko : (k : Int) + 1 ≤ 9223372036854775807 := by omega
          go_wp2_with fail
          go_ret3
          have hr := HG.out
          rw [HD'.out, C1.out, noteGo_end] at hr
          exact ⟨by rw [← hr]; rfl, hkp⟩
        · have t1 : ((c.toNat : Int) == 125) = false := by
            rw [beq_eq_false_iff_ne]; intro h
            exact c1 (by apply UInt8.toNat_inj.1; show c.toNat = 125; omega)
          have C1 := Lib.hid c1; clear c1
          by_cases c2 : c = 92
          · have t2 : ((c.toNat : Int) == 92) = true := by subst c2; rfl
            have C2 := Lib.hid c2; clear c2
            by_cases hl2 : k + 1 < s.size
            · have e2 : (((k : Int) + 1) == (s.size : Int)) = false := by rw [beq_eq_false_iff_ne]; omega
              have hj0 : (0 : Int) ≤ (k : Int) + 1 := by omega
              have hj1 : (k : Int) + 1 < (s.size : Int) := by omega
              obtain ⟨d, hdd⟩ : ∃ d, d = s[k + 1] := ⟨_, rfl⟩
              have HD2 : Hid ((bs s).drop (k + 1) = d :: (bs s).drop (k + 2)) := by rw [hdd]; exact bs_drop s (k + 1) hl2
              have hix2 : ∀ (h : k + 1 < s.size), ((s[k + 1]'h).toNat : Int) = (d.toNat : Int) := fun h => by rw [hdd]
              clear hdd
              by_cases c3 : d = 92 ∨ d = 125
              · have hrt : rightB d = true := by rcases c3 with rfl | rfl <;> decide
                have HRT := Lib.hid hrt; have C3 := Lib.hid c3
                have q1 : ((d.toNat : Int) == 92) = decide (d = 92) := by rcases c3 with rfl | rfl <;> rfl
                have q2 : d ≠ 92 → ((d.toNat : Int) == 125) = true := fun h => by rcases c3 with rfl | rfl; exact absurd rfl h; rfl
                by_cases d92 : d = 92
                · have t3 : ((d.toNat : Int) == 92) = true := by subst d92; rfl
                  have t3' : ((d.toNat : Int) != 92) = false := by unfold bne; rw [t3]; rfl
                  clear hrt c3 q1 q2 d92
                  by_cases ho : out.length = 1024
                  · have hot : ((out.length : Int) == 1024) = true := by simp; omega
                    have HO := Lib.hid ho; clear ho
                    go_wp2_with fail
                    refine (refRight_any d _).mono ?_
                    rintro e w3 ⟨rfl, rfl⟩
                    rw [HRT.out]
                    go_wp2_with fail
                    go_ret3
                    have hr := HG.out
                    rw [HD'.out, C2.out, HD2.out, noteGo_bs_full _ _ _ _ C3.out HO.out] at hr
                    exact ⟨by rw [← hr]; rfl, hkp⟩
                  · have hot : ((out.length : Int) == 1024) = false := by rw [beq_eq_false_iff_ne]; omega
                    have hol' : out.length < 1024 := by omega
                    have HO := Lib.hid ho; clear ho
                    obtain ⟨i0, hi, hz0, hz1, hz2⟩ := info_parts info_u8
                    go_wp2_with fail
                    refine (refRight_any d _).mono ?_
                    rintro e w3 ⟨rfl, rfl⟩
                    rw [HRT.out]
                    go_wp2_with (at_builtin; refine wpList_append_own _ rfl _ _ 112 rfl w.heap.size 5 i0 (.int .u8 0) 1 1 Tryz.underlying112 hi hz0 hz1 hz2 rfl (by decide) _ _ _ rfl (hown.alloc _) _ 1 1 [.int .u8 (d.toNat : Int)] rfl rfl ?c1d ?c2d ?c3d ?c4d ?c5d ?_)
                    case c1d =>
                      intro j u hj
                      match j, hj with
                      | 0, hj => simp at hj; subst hj; simp only [Addr.add]; exact Blk.at_ (Blk.new _ _ _) 0 rfl
                    case c2d => intro u hu; simp at hu; subst hu; rfl
                    case c3d => unfold maxLen; omega
                    case c4d => omega
                    case c5d => have := hkp.size; simp; omega
                    · intro v' w1 hown' hgrow _
                      have hk3 : Keep (fun _ => False) w w1 := (hkp.alloc _).grown hgrow (by
                        intro q hq hlt
                        have h4 := (World.ownsRow.lt (show World.ownsRow _ _ _ _ _ _ _ from hown) q hq).1
                        omega)
                      have ho3 : OwnBytes w1 w.heap.size v' (out ++ [d]) := OwnBytes.snoc (by simpa using hown')
                      have hr3 : Hid (noteGo ((bs s).drop (k + 2)) (out ++ [d]) (k + 2) = R) := by
                        have hr := HG.out
                        rw [HD'.out, C2.out, HD2.out, noteGo_bs _ _ _ _ C3.out HO.out] at hr
                        exact hr
                      clear hown' hgrow hown hkp
                      go_wp2_with fail
                      go_roundw
                      case rel => exact ⟨k + 2, out ++ [d], by go_num, by omega, by omega, by simp; omega, ho3, hk3, hr3⟩
                      case measure => simp [intOf]; omega
                · have t3 : ((d.toNat : Int) == 92) = false := by rw [q1]; exact decide_eq_false d92
                  have t3' : ((d.toNat : Int) != 92) = true := by unfold bne; rw [t3]; rfl
                  have t4 : ((d.toNat : Int) == 125) = true := q2 d92
                  clear hrt c3 q1 q2 d92
                  by_cases ho : out.length = 1024
                  · have hot : ((out.length : Int) == 1024) = true := by simp; omega
                    have HO := Lib.hid ho; clear ho
                    go_wp2_with fail
                    refine (refRight_any d _).mono ?_
                    rintro e w3 ⟨rfl, rfl⟩
                    rw [HRT.out]
                    go_wp2_with fail
                    go_ret3
                    have hr := HG.out
                    rw [HD'.out, C2.out, HD2.out, noteGo_bs_full _ _ _ _ C3.out HO.out] at hr
                    exact ⟨by rw [← hr]; rfl, hkp⟩
                  · have hot : ((out.length : Int) == 1024) = false := by rw [beq_eq_false_iff_ne]; omega
                    have hol' : out.length < 1024 := by omega
                    have HO := Lib.hid ho; clear ho
                    obtain ⟨i0, hi, hz0, hz1, hz2⟩ := info_parts info_u8
                    go_wp2_with fail
                    refine (refRight_any d _).mono ?_
                    rintro e w3 ⟨rfl, rfl⟩
                    rw [HRT.out]
                    go_wp2_with (at_builtin; refine wpList_append_own _ rfl _ _ 112 rfl w.heap.size 5 i0 (.int .u8 0) 1 1 Tryz.underlying112 hi hz0 hz1 hz2 rfl (by decide) _ _ _ rfl (hown.alloc _) _ 1 1 [.int .u8 (d.toNat : Int)] rfl rfl ?x1d ?x2d ?x3d ?x4d ?x5d ?_)
                    case x1d =>
                      intro j u hj
                      match j, hj with
                      | 0, hj => simp at hj; subst hj; simp only [Addr.add]; exact Blk.at_ (Blk.new _ _ _) 0 rfl
                    case x2d => intro u hu; simp at hu; subst hu; rfl
                    case x3d => unfold maxLen; omega
                    case x4d => omega
                    case x5d => have := hkp.size; simp; omega
                    · intro v' w1 hown' hgrow _
                      have hk3 : Keep (fun _ => False) w w1 := (hkp.alloc _).grown hgrow (by
                        intro q hq hlt
                        have h4 := (World.ownsRow.lt (show World.ownsRow _ _ _ _ _ _ _ from hown) q hq).1
                        omega)
                      have ho3 : OwnBytes w1 w.heap.size v' (out ++ [d]) := OwnBytes.snoc (by simpa using hown')
                      have hr3 : Hid (noteGo ((bs s).drop (k + 2)) (out ++ [d]) (k + 2) = R) := by
                        have hr := HG.out
                        rw [HD'.out, C2.out, HD2.out, noteGo_bs _ _ _ _ C3.out HO.out] at hr
                        exact hr
                      clear hown' hgrow hown hkp
                      go_wp2_with fail
                      go_roundw
                      case rel => exact ⟨k + 2, out ++ [d], by go_num, by omega, by omega, by simp; omega, ho3, hk3, hr3⟩
                      case measure => simp [intOf]; omega
              · have t3 : ((d.toNat : Int) == 92) = false := by
                  rw [beq_eq_false_iff_ne]; intro h
                  exact c3 (.inl (by apply UInt8.toNat_inj.1; show d.toNat = 92; omega))
                have t3' : ((d.toNat : Int) != 92) = true := by unfold bne; rw [t3]; rfl
                have t4 : ((d.toNat : Int) == 125) = false := by
                  rw [beq_eq_false_iff_ne]; intro h
                  exact c3 (.inr (by apply UInt8.toNat_inj.1; show d.toNat = 125; omega))
                have C3 := Lib.hid c3; clear c3
                go_wp2_with fail
                go_ret3
                have hr := HG.out
                rw [HD'.out, C2.out, HD2.out, noteGo_bs_bad _ _ _ _ C3.out] at hr
                exact ⟨by rw [← hr]; rfl, hkp⟩
            · have e2 : (((k : Int) + 1) == (s.size : Int)) = true := by rw [beq_iff_eq]; omega
              have HE : Hid ((bs s).drop (k + 1) = []) := bs_drop_end s (k + 1) (by omega)
              go_wp2_with fail
              go_ret3
              have hr := HG.out
              rw [HD'.out, C2.out, HE.out, noteGo_bs0] at hr
              exact ⟨by rw [← hr]; rfl, hkp⟩
          · have t2 : ((c.toNat : Int) == 92) = false := by
              rw [beq_eq_false_iff_ne]; intro h
              exact c2 (by apply UInt8.toNat_inj.1; show c.toNat = 92; omega)
            have C2 := Lib.hid c2; clear c2
            obtain ⟨rb, hrb⟩ : ∃ rb, rb = rightB c := ⟨_, rfl⟩
            by_cases hrt0 : rb = true
            · subst hrt0
              have HRT : Hid (rightB c = true) := hrb.symm
              clear hrb
              by_cases ho : out.length = 1024
              · have hot : ((out.length : Int) == 1024) = true := by simp; omega
                have HO := Lib.hid ho; clear ho
                go_wp2_with fail
                refine (refRight_any c _).mono ?_
                rintro e w3 ⟨rfl, rfl⟩
                rw [HRT.out]
                go_wp2_with fail
                go_ret3
                have hr := HG.out
                rw [HD'.out, noteGo_full _ _ _ _ C1.out C2.out HRT.out HO.out] at hr
                exact ⟨by rw [← hr]; rfl, hkp⟩
              · have hot : ((out.length : Int) == 1024) = false := by rw [beq_eq_false_iff_ne]; omega
                have hol' : out.length < 1024 := by omega
                have HO := Lib.hid ho; clear ho
                obtain ⟨i0, hi, hz0, hz1, hz2⟩ := info_parts info_u8
                go_wp2_with fail
                refine (refRight_any c _).mono ?_
                rintro e w3 ⟨rfl, rfl⟩
                rw [HRT.out]
                go_wp2_with (at_builtin; refine wpList_append_own _ rfl _ _ 112 rfl w.heap.size 5 i0 (.int .u8 0) 1 1 Tryz.underlying112 hi hz0 hz1 hz2 rfl (by decide) _ _ _ rfl (hown.alloc _) _ 1 1 [.int .u8 (c.toNat : Int)] rfl rfl ?c1c ?c2c ?c3c ?c4c ?c5c ?_)
                case c1c =>
                  intro j u hj
                  match j, hj with
                  | 0, hj => simp at hj; subst hj; simp only [Addr.add]; exact Blk.at_ (Blk.new _ _ _) 0 rfl
                case c2c => intro u hu; simp at hu; subst hu; rfl
                case c3c => unfold maxLen; omega
                case c4c => omega
                case c5c => have := hkp.size; simp; omega
                · intro v' w1 hown' hgrow _
                  have hk3 : Keep (fun _ => False) w w1 := (hkp.alloc _).grown hgrow (by
                    intro q hq hlt
                    have h4 := (World.ownsRow.lt (show World.ownsRow _ _ _ _ _ _ _ from hown) q hq).1
                    omega)
                  have ho3 : OwnBytes w1 w.heap.size v' (out ++ [c]) := OwnBytes.snoc (by simpa using hown')
                  have hr3 : Hid (noteGo ((bs s).drop (k + 1)) (out ++ [c]) (k + 1) = R) := by
                    have hr := HG.out
                    rw [HD'.out, noteGo_go _ _ _ _ C1.out C2.out HRT.out HO.out] at hr
                    exact hr
                  clear hown' hgrow hown hkp
                  go_wp2_with fail
                  go_roundw
                  case rel => exact ⟨k + 1, out ++ [c], by go_num, by omega, by omega, by simp; omega, ho3, hk3, hr3⟩
                  case measure => simp [intOf]; omega
            · have HRT : Hid (rightB c = false) := by show rightB c = false; rw [← hrb]; simpa using hrt0
              clear hrb hrt0
              go_wp2_with fail
              refine (refRight_any c _).mono ?_
              rintro e w3 ⟨rfl, rfl⟩
              rw [HRT.out]
              go_wp2_with fail
              go_ret3
              have hr := HG.out
              rw [HD'.out, noteGo_bad _ _ _ _ C1.out C2.out HRT.out] at hr
              exact ⟨by rw [← hr]; rfl, hkp⟩
      · have hlt' : decide ((k : Int) < (s.size : Int)) = false := by simp; omega
        have HE : Hid ((bs s).drop k = []) := bs_drop_end s k (by omega)
        go_wp2_with fail
        go_ret3
        have hr := HG.out
        rw [HE.out, noteGo_nil] at hr
        exact ⟨by rw [← hr]; rfl, hkp⟩
  · have hbf : B = false := by simpa using hb
    subst hbf
    have HR := Lib.hid hR; have HB := Lib.hid hB
    clear hR hB hb
    go_enter Tryz.func70, Tryz.ntmps70
    go_wp2_with fail
    refine (BC _).mono ?_
    clear BC
    rintro e w2 ⟨rfl, rfl⟩
    go_wp2_with fail
    go_ret3
    refine ⟨?_, Keep.refl _ _⟩
    rw [HR.out]; unfold noteRead; rw [if_neg (by rw [← HB.out]; decide)]; rfl
end Go.Proofs.YtgmmjhelcpgakaaGreatDoor
/- The reference's Among, words and signs at Pas. -/
namespace Go.Proofs.YtgmmjhelcpgakaaGreatDoor
open Go.RowKit
set_option linter.unusedVariables false
set_option linter.unusedSimpArgs false

/-- Is a text one of some. -/
def amongB (L : List ByteArray) (s : ByteArray) : Bool := L.any (fun x => x.toList == s.toList)
set_option maxHeartbeats 1000000 in
theorem refAmong_any (g n c : Nat) (L : List ByteArray) (s : ByteArray) (w : World) (hn : n = L.length) (hl : n ≤ 1000000) (hc : ∀ i x, L[i]? = some x → w.cell? ⟨g, i, none⟩ = some (.string x)) :
    Calls Tryz.prog 135 #[.slice (some ⟨g, 0, none⟩) n c, .string s] w fun e w' => e = .returned (.bool (amongB L s)) ∧ w' = w := by
  obtain ⟨R, hR⟩ : ∃ R, R = amongB L s := ⟨_, rfl⟩
  rw [← hR]
  have HR := Lib.hid hR; have HN := Lib.hid hn; have HC := Lib.hid hc
  clear hR hn hc
  go_enter Tryz.func135, Tryz.ntmps135
  go_wp2_with fail
  go_loop [5] (fun i => ∃ k : Nat, k ≤ n ∧ i = .int .i64 k ∧ Hid (amongB (L.drop k) s = R)) (fun i => n - (intOf i).toNat)
  case atStart => exact ⟨0, Nat.zero_le _, rfl, by show _ = R; rw [HR.out]; rfl⟩
  case round =>
    obtain ⟨k, hk, rfl, HG⟩ := hrel
    by_cases hkn : k < n
    · have j0 : (0 : Int) ≤ (k : Int) := by omega
      have j1 : (k : Int) < (n : Int) := by omega
      have hkl : k < L.length := by rw [← HN.out]; exact hkn
      obtain ⟨x, hx⟩ : ∃ x, x = L[k] := ⟨_, rfl⟩
      have hcell := HC.out k x (by rw [hx]; exact List.getElem?_eq_getElem hkl)
      have HD : Hid (L.drop k = x :: L.drop (k + 1)) := by rw [hx]; exact List.drop_eq_getElem_cons hkl
      clear hx hkl
      by_cases hxs : (x.toList == s.toList) = true
      · go_wp2_with fail
        go_ret
        have h1 := HG.out
        rw [HD.out] at h1
        unfold amongB at h1
        rw [List.any_cons, hxs] at h1
        exact ⟨by rw [← h1]; rfl, rfl⟩
      · have hxf : (x.toList == s.toList) = false := by simpa using hxs
        clear hxs
        go_wp2_with fail
        go_round
        case rel =>
          refine ⟨k + 1, by omega, by go_num, ?_⟩
          have h1 := HG.out
          rw [HD.out] at h1
          unfold amongB at h1 ⊢
          rw [List.any_cons, hxf, Bool.false_or] at h1
          exact h1
        case measure => simp [intOf]; omega
    · obtain rfl : k = n := by omega
      have h1 := HG.out
      rw [HN.out, List.drop_length] at h1
      have H1 := Lib.hid h1
      clear h1
      go_wp2_with fail
      go_ret
      exact ⟨by rw [← H1.out]; rfl, rfl⟩

def refWords : List ByteArray := [⟨#[97, 110, 100]⟩, ⟨#[97, 114, 114, 97, 121]⟩, ⟨#[98, 101, 103, 105, 110]⟩, ⟨#[98, 111, 111, 108, 101, 97, 110]⟩, ⟨#[99, 104, 97, 114]⟩, ⟨#[100, 105, 118]⟩, ⟨#[100, 111]⟩, ⟨#[100, 111, 119, 110, 116, 111]⟩, ⟨#[101, 108, 115, 101]⟩, ⟨#[101, 110, 100]⟩, ⟨#[102, 97, 108, 115, 101]⟩, ⟨#[102, 111, 114]⟩, ⟨#[102, 111, 114, 119, 97, 114, 100]⟩, ⟨#[102, 117, 110, 99, 116, 105, 111, 110]⟩, ⟨#[105, 102]⟩, ⟨#[105, 110, 116, 101, 103, 101, 114]⟩, ⟨#[109, 111, 100]⟩, ⟨#[110, 111, 116]⟩, ⟨#[111, 102]⟩, ⟨#[111, 114]⟩, ⟨#[112, 114, 111, 99, 101, 100, 117, 114, 101]⟩, ⟨#[112, 114, 111, 103, 114, 97, 109]⟩, ⟨#[114, 101, 97, 100]⟩, ⟨#[114, 101, 99, 111, 114, 100]⟩, ⟨#[114, 101, 112, 101, 97, 116]⟩, ⟨#[114, 101, 116, 117, 114, 110]⟩, ⟨#[116, 104, 101, 110]⟩, ⟨#[116, 111]⟩, ⟨#[116, 114, 117, 101]⟩, ⟨#[116, 121, 112, 101]⟩, ⟨#[117, 110, 116, 105, 108]⟩, ⟨#[118, 97, 114]⟩, ⟨#[119, 104, 105, 108, 101]⟩, ⟨#[119, 114, 105, 116, 101]⟩]
def refSigns : List ByteArray := [⟨#[58, 61]⟩, ⟨#[60, 62]⟩, ⟨#[60, 61]⟩, ⟨#[62, 61]⟩, ⟨#[61]⟩, ⟨#[60]⟩, ⟨#[62]⟩, ⟨#[43]⟩, ⟨#[45]⟩, ⟨#[42]⟩, ⟨#[40]⟩, ⟨#[41]⟩, ⟨#[91]⟩, ⟨#[93]⟩, ⟨#[59]⟩, ⟨#[58]⟩, ⟨#[44]⟩, ⟨#[46]⟩]

set_option maxRecDepth 100000 in
theorem refWordsAll_any (w : World) :
    Calls Tryz.prog 136 #[.int .i64 0] w fun e w' => e = .returned (.slice (some ⟨w.heap.size, 0, none⟩) 34 34) ∧ w' = w.alloc (.cells (refWords.map Value.string).toArray 9) := by
  go_enter Tryz.func136, Tryz.ntmps136
  go_wp2_with fail
  go_ret
  exact ⟨rfl, rfl⟩

set_option maxRecDepth 100000 in
theorem refSignsAll_any (w : World) :
    Calls Tryz.prog 75 #[.int .i64 0] w fun e w' => e = .returned (.slice (some ⟨w.heap.size, 0, none⟩) 18 18) ∧ w' = w.alloc (.cells (refSigns.map Value.string).toArray 9) := by
  go_enter Tryz.func75, Tryz.ntmps75
  go_wp2_with fail
  go_ret
  exact ⟨rfl, rfl⟩

theorem amongB_map (L : List ByteArray) (s : ByteArray) : amongB L s = (L.map bs).contains (bs s) := by
  unfold amongB
  induction L with
  | nil => rfl
  | cons a L ih =>
    rw [List.any_cons, ih, List.map_cons, List.contains_cons]
    congr 1
    rw [ByteArray.toList_eq, ByteArray.toList_eq]
    show (bs a == bs s) = (bs s == bs a)
    rw [Bool.eq_iff_iff, beq_iff_eq, beq_iff_eq]; exact eq_comm
theorem refWords_eq : refWords.map bs = pasWords := by kernel_rfl
theorem refSigns_eq : refSigns.map bs = pasSigns := by kernel_rfl
theorem refWords_is (s : ByteArray) : amongB refWords s = isWord (bs s) := by rw [amongB_map, refWords_eq]; rfl
theorem refWords_cell (w : World) (i : Nat) (x : ByteArray) (h : refWords[i]? = some x) (L : List ByteArray) (hL : L = refWords) : (w.alloc (.cells (L.map Value.string).toArray 9)).cell? ⟨w.heap.size, i, none⟩ = some (.string x) := by
  refine Blk.at_ (Blk.new _ _ _) i ?_
  rw [hL]
  simp [h]
theorem refIsAt_any (s : ByteArray) (w : World) :
    Calls Tryz.prog 105 #[.int .i64 0, .string s] w fun e w' => e = .returned (.bool (isWord (bs s))) ∧ Keep (fun _ => False) w w' := by
  obtain ⟨L, hL⟩ : ∃ L, L = refWords := ⟨_, rfl⟩
  have HW := fun w : World => refWordsAll_any w
  rw [← hL] at HW
  have hAm := fun (w : World) => refAmong_any w.heap.size 34 34 L s (w.alloc (.cells (L.map Value.string).toArray 9)) (by rw [hL]; rfl) (by omega) (fun i x h => refWords_cell w i x (by rw [← hL]; exact h) L hL)
  rw [show amongB L s = isWord (bs s) from by rw [hL]; exact refWords_is s] at hAm
  have HL := Lib.hid hL
  clear hL
  go_enter Tryz.func105, Tryz.ntmps105
  go_wp2_with fail
  refine (HW _).mono ?_
  rintro e w' ⟨rfl, hw⟩
  have HK : Hid (Keep (fun _ => False) w w') := by show Keep _ _ _; rw [hw]; exact (Keep.refl _ w).alloc _
  have HA := Lib.hid (hAm w)
  rw [← hw] at HA
  clear hw hAm HW
  go_wp2_with fail
  refine HA.out.mono ?_
  rintro e w2 ⟨rfl, rfl⟩
  go_wp2_with fail
  go_ret
  exact ⟨rfl, HK.out⟩
end Go.Proofs.YtgmmjhelcpgakaaGreatDoor
