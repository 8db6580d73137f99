/- Package note at Pas: of, Begins, right, Read. -/
import Derived.Test.YtgmmjhelcpgakaaGreatDoorGA
import Derived.Outline
namespace Go.Proofs.YtgmmjhelcpgakaaGreatDoor
open Go.RowKit
set_option linter.unusedVariables false
set_option linter.unusedSimpArgs false

def marksV : Array Value := #[.string ⟨#[123]⟩, .string ⟨#[125]⟩, .string ⟨#[92, 125]⟩]
theorem of_any (w : World) :
    Calls Tryz.prog 113 #[.int .i64 0] w fun e w' => e = .returned (.tuple #[.agg marksV, .bool true]) ∧ Keep (fun _ => False) w w' := by
  go_enter Tryz.func113, Tryz.ntmps113
  go_wp2_with fail
  refine bodyPost_ret (v := .tuple #[.agg marksV, .bool true]) (by simp [marksV, results, Tryz.results113, go_sem]) rfl ⟨rfl, ?_⟩
  exact (Keep.refl _ w).alloc _

theorem right_any (c : UInt8) (w : World) :
    Calls Tryz.prog 115 #[.int .u8 (c.toNat : Int)] w fun e w' => e = .returned (.bool (rightB c)) ∧ w' = w := by
  have hlt := c.toNat_lt
  have h9 : (c == 9) = ((c.toNat : Int) == 9) := by
    rw [Bool.eq_iff_iff]; simp [← UInt8.toNat_inj]; omega
  have h10 : (c == 10) = ((c.toNat : Int) == 10) := by
    rw [Bool.eq_iff_iff]; simp [← UInt8.toNat_inj]; omega
  have e : rightB c = (((c.toNat : Int) == 9) || ((c.toNat : Int) == 10) || (decide (32 ≤ (c.toNat : Int)) && decide ((c.toNat : Int) ≤ 126))) := by
    unfold rightB; rw [h9, h10]; congr 2 <;> (rw [Bool.eq_iff_iff]; simp; omega)
  rw [e]
  clear e h9 h10
  generalize (c.toNat : Int) = n
  by_cases a1 : n = 9
  · subst a1
    go_enter Tryz.func115, Tryz.ntmps115
    go_wp2
    go_ret
    exact ⟨rfl, rfl⟩
  by_cases a2 : n = 10
  · subst a2
    go_enter Tryz.func115, Tryz.ntmps115
    go_wp2
    go_ret
    exact ⟨rfl, rfl⟩
  have b1 : (n == 9) = false := by simp [a1]
  have b2 : (n == 10) = false := by simp [a2]
  by_cases a3 : 32 ≤ n
  · have b3 : decide (32 ≤ n) = true := by simpa using a3
    go_enter Tryz.func115, Tryz.ntmps115
    go_wp2
    go_ret
    exact ⟨by simp [b1, b2, b3], rfl⟩
  · have b3 : decide (32 ≤ n) = false := by simpa using a3
    go_enter Tryz.func115, Tryz.ntmps115
    go_wp2
    go_ret
    exact ⟨by simp [b1, b2, b3], rfl⟩

theorem begins_any (s : ByteArray) (w : World) :
    Calls Tryz.prog 79 #[.int .i64 0, .string s] w fun e w' => e = .returned (.bool (noteBegins (bs s))) ∧ Keep (fun _ => False) w w' := by
  have hp : Lib.hasPrefix s.data.toList [123] = noteBegins (bs s) := by
    unfold noteBegins bs Lib.hasPrefix
    cases s.data.toList with
    | nil => rfl
    | cons a l => rw [Bool.eq_iff_iff]; simp only [List.isPrefixOf, Bool.and_true, beq_iff_eq, List.head?_cons, Option.some.injEq]; exact eq_comm
  have HP := Lib.hid hp; clear hp
  go_enter Tryz.func79, Tryz.ntmps79
  go_wp2_with fail
  refine (of_any _).mono ?_
  rintro e w1 ⟨rfl, hk⟩
  unfold marksV
  have hb := Blk.new w1 marksV 168
  have hb0 := hb.at_ 0 (v := .string ⟨#[123]⟩) rfl
  unfold marksV at hb0
  go_wp2_with fail
  refine (hasPrefix_any _ _ _).mono ?_
  rintro e w2 ⟨rfl, rfl⟩
  go_wp2_with fail
  go_ret
  exact ⟨by show Ending.returned (Value.bool (Lib.hasPrefix s.data.toList [123])) = _; rw [HP.out], hk.alloc _⟩
end Go.Proofs.YtgmmjhelcpgakaaGreatDoor
/- Package note at Pas: Read. -/
namespace Go.Proofs.YtgmmjhelcpgakaaGreatDoor
open Go.RowKit
set_option linter.unusedVariables false
set_option linter.unusedSimpArgs false

def readV (r : Bs × Nat × Nat) : Value := .tuple #[.string ⟨r.1.toArray⟩, .int .i64 r.2.1, .int .i64 r.2.2]
theorem hasPrefix_one (c d : UInt8) (l : Bs) : Lib.hasPrefix (c :: l) [d] = (d == c) := by simp [Lib.hasPrefix, List.isPrefixOf]

set_option maxRecDepth 100000 in
set_option maxHeartbeats 2000000 in
theorem noteRead_any (s : ByteArray) (w : World) (hs : s.size ≤ 140737488351232) :
    Calls Tryz.prog 81 #[.int .i64 0, .string s] w fun e w' => e = .returned (readV (noteRead (bs s))) ∧ Keep (fun _ => False) w w' := by
  obtain ⟨R, hR⟩ : ∃ R, R = noteRead (bs s) := ⟨_, rfl⟩
  rw [← hR]
  obtain ⟨B, hB⟩ : ∃ B, B = noteBegins (bs s) := ⟨_, rfl⟩
  have BC := fun w => begins_any s w
  rw [← hB] at BC
  by_cases hb : B = true
  · subst hb
    have HR := Lib.hid hR; have HB := Lib.hid hB
    clear hR hB
    go_enter Tryz.func81, Tryz.ntmps81
    go_wp2_with fail
    refine (of_any _).mono ?_
    rintro e w1 ⟨rfl, hk1⟩
    unfold marksV
    go_wp2_with fail
    refine (BC _).mono ?_
    clear BC
    rintro e w2 ⟨rfl, hk2⟩
    have hm1 := hk2.blk (Blk.new w1 marksV 168) (fun h => h)
    have hk2' : Keep (fun _ => False) w w2 := (hk1.alloc _).trans hk2
    have hlt := hm1.lt
    have hsz : w.heap.size ≤ w1.heap.size := hk1.size
    obtain ⟨bm, hbm⟩ : ∃ bm, bm = w1.heap.size := ⟨_, rfl⟩
    rw [← hbm] at hm1 hlt hsz ⊢
    clear hbm hk1 hk2
    unfold marksV at hm1
    have m0 := hm1.at_ 0 (v := .string ⟨#[123]⟩) rfl
    go_wp2_with fail
    go_loopw [9, 10] (fun o i wr => ∃ (k : Nat) (out : Bs), i = .int .i64 k ∧ 1 ≤ k ∧ k ≤ s.size ∧ out.length ≤ 1024 ∧ OwnBytes wr w2.heap.size o out ∧ Blk wr bm #[.string ⟨#[123]⟩, .string ⟨#[125]⟩, .string ⟨#[92, 125]⟩] 168 ∧ Keep (fun _ => False) w2 wr ∧ Hid (noteGo ((bs s).drop k) out k = R)) (fun _ i _ => s.size - (intOf i).toNat)
    case atStart =>
      have hnb : noteBegins (bs s) = true := HB.out.symm
      have hne : 1 ≤ s.size := by
        rcases Nat.eq_zero_or_pos s.size with h0 | h0
        · exfalso
          have h1 : bs s = [] := List.eq_nil_of_length_eq_zero (by rw [bs_len]; exact h0)
          rw [h1] at hnb; exact absurd hnb (by decide)
        · exact h0
      exact ⟨1, [], rfl, Nat.le_refl _, hne, by simp, OwnBytes.nil _ _, hm1, Keep.refl _ _, by rw [HR.out]; unfold noteRead; rw [if_pos hnb]; rfl⟩
    case round =>
      obtain ⟨k, out, rfl, hk1, hk, hol, hown, hm, hkp, HG⟩ := hrel
      obtain ⟨oA, oc, rfl⟩ := hown.form
      have m1 := hm.at_ 1 (v := .string ⟨#[125]⟩) rfl
      have m2 := hm.at_ 2 (v := .string ⟨#[92, 125]⟩) rfl
      by_cases hlt : k < s.size
      · have hd := bs_drop s k hlt
        have hi0 : (0 : Int) ≤ (k : Int) := by omega
        have hi1 : (k : Int) < (s.size : Int) := by omega
        have hi2 : (k : Int) ≤ (s.size : Int) := by omega
        have HP : Hid (Lib.hasPrefix (s.extract k s.size).data.toList [125] = ((125 : UInt8) == s[k])) := by
          show Lib.hasPrefix (bs (s.extract k s.size)) [125] = _
          rw [bs_tail, hd, hasPrefix_one]
        have HD := Lib.hid hd; clear hd
        obtain ⟨c, hcc⟩ : ∃ c, c = s[k] := ⟨_, rfl⟩
        rw [← hcc] at HP
        have HD' : Hid ((bs s).drop k = c :: (bs s).drop (k + 1)) := by rw [hcc]; exact HD
        have HC := Lib.hid hcc
        clear HD hcc
        by_cases c1 : c = 125
        · have HT : Hid (((125 : UInt8) == c) = true) := by subst c1; rfl
          have C1 := Lib.hid c1; clear c1
          have hq : ∀ W : World, Calls Tryz.prog 114 #[.string (s.extract k s.size), .string ⟨#[125]⟩] W fun e w' => e = .returned (.bool true) ∧ w' = W := by
            intro W
            have := hasPrefix_any (s.extract k s.size) ⟨#[125]⟩ W
            rw [show (ByteArray.mk #[125]).data.toList = [125] from rfl, HP.out, HT.out] at this
            exact this
          have HQ := Lib.hid hq; clear hq
          have hcv := hown.str
          have hko : (k : Int) + 1 ≤ 9223372036854775807 := by omega
          go_wp2_with fail
          go_quiet ((go_at_call 114; exact Calls.quiet_of_same (HQ.out _)))
          go_wp2_with fail
          go_quiet (fail)
          go_wp2_with fail
          go_ret3
          have hr := HG.out
          rw [HD'.out, C1.out, noteGo_end] at hr
          exact ⟨by rw [← hr]; rfl, hk2'.trans ((hkp.drewN _).drewN _)⟩
        · have HT : Hid (((125 : UInt8) == c) = false) := by
            show ((125 : UInt8) == c) = false
            rw [beq_eq_false_iff_ne]; exact fun h => c1 h.symm
          have C1 := Lib.hid c1; clear c1
          have hq : ∀ W : World, Calls Tryz.prog 114 #[.string (s.extract k s.size), .string ⟨#[125]⟩] W fun e w' => e = .returned (.bool false) ∧ w' = W := by
            intro W
            have := hasPrefix_any (s.extract k s.size) ⟨#[125]⟩ W
            rw [show (ByteArray.mk #[125]).data.toList = [125] from rfl, HP.out, HT.out] at this
            exact this
          have HQ := Lib.hid hq; clear hq
          have hix : ∀ (h : k < s.size), ((s[k]'h).toNat : Int) = (c.toNat : Int) := fun h => by rw [HC.out]
          by_cases c2 : c = 92
          · have t2 : ((c.toNat : Int) == 92) = true := by subst c2; rfl
            have C2 := Lib.hid c2; clear c2
            by_cases hl2 : k + 1 < s.size
            · have e2 : (((k : Int) + 1) == (s.size : Int)) = false := by rw [beq_eq_false_iff_ne]; omega
              have hj0 : (0 : Int) ≤ (k : Int) + 1 := by omega
              have hj1 : (k : Int) + 1 < (s.size : Int) := by omega
              obtain ⟨d, hdd⟩ : ∃ d, d = s[k + 1] := ⟨_, rfl⟩
              have HD2 : Hid ((bs s).drop (k + 1) = d :: (bs s).drop (k + 2)) := by rw [hdd]; exact bs_drop s (k + 1) hl2
              have hix2 : ∀ (h : k + 1 < s.size), ((s[k + 1]'h).toNat : Int) = (d.toNat : Int) := fun h => by rw [hdd]
              have HDD := Lib.hid hdd; clear hdd
              by_cases c3 : d = 92 ∨ d = 125
              · have hrt : rightB d = true := by rcases c3 with rfl | rfl <;> decide
                have hcont : ([92, 125] : List UInt8).contains d = true := by rcases c3 with rfl | rfl <;> decide
                have hpos := indexByte_pos [92, 125] d hcont
                have ht3 : decide (Lib.indexByte [92, 125] d < 0) = false := by simp; omega
                have HI : Hid (∀ (n : Int) (W : World), n = (d.toNat : Int) → Calls Tryz.prog 77 #[.string ⟨#[92, 125]⟩, .int .u8 n] W fun e w' => e = .returned (.int .i64 (Lib.indexByte [92, 125] d)) ∧ w' = W) := fun n W hn => by rw [hn]; exact indexByte_at ⟨#[92, 125]⟩ d W
                have HRT := Lib.hid hrt
                have C3 := Lib.hid c3
                clear c3 hrt hcont hpos
                by_cases ho : out.length = 1024
                · have hot : ((out.length : Int) == 1024) = true := by simp; omega
                  have HO := Lib.hid ho; clear ho
                  go_wp2_with fail
                  go_quiet ((go_at_call 114; exact Calls.quiet_of_same (HQ.out _)))
                  go_wp2_with fail
                  go_quiet ((go_at_call 77; exact quiet_add_same (HI.out _ _ (by first | exact hix2 _ | rfl))))
                  go_wp2_with fail
                  refine (right_any d _).mono ?_
                  rintro e w3 ⟨rfl, rfl⟩
                  rw [HRT.out]
                  go_wp2_with fail
                  go_ret3
                  have hr := HG.out
                  rw [HD'.out, C2.out, HD2.out, noteGo_bs_full _ _ _ _ C3.out HO.out] at hr
                  exact ⟨by rw [← hr]; rfl, hk2'.trans (hkp.drewN _)⟩
                · have hot : ((out.length : Int) == 1024) = false := by rw [beq_eq_false_iff_ne]; omega
                  have hol' : out.length < 1024 := by omega
                  have HO := Lib.hid ho; clear ho
                  obtain ⟨i0, hi, hz0, hz1, hz2⟩ := info_parts info_u8
                  go_wp2_with fail
                  go_quiet ((go_at_call 114; exact Calls.quiet_of_same (HQ.out _)))
                  go_wp2_with fail
                  go_quiet ((go_at_call 77; exact quiet_add_same (HI.out _ _ (by first | exact hix2 _ | rfl))))
                  go_wp2_with fail
                  refine (right_any d _).mono ?_
                  rintro e w3 ⟨rfl, rfl⟩
                  rw [HRT.out]
                  go_wp2_with (at_builtin; refine wpList_append_own _ rfl _ _ 112 rfl w2.heap.size 5 i0 (.int .u8 0) 1 1 Tryz.underlying112 hi hz0 hz1 hz2 rfl (by decide) _ _ _ rfl ((hown.drewN _).alloc _) _ 1 1 [.int .u8 (d.toNat : Int)] rfl rfl ?c1A ?c2A ?c3A ?c4A ?c5A ?_)
                  case c1A =>
                    intro j u hj
                    match j, hj with
                    | 0, hj => simp at hj; subst hj; simp only [Addr.add]; exact Blk.new0 _ _ _ _
                  case c2A => intro u hu; simp at hu; subst hu; rfl
                  case c3A => unfold maxLen; omega
                  case c4A => omega
                  case c5A => have := hkp.size; simp; omega
                  · intro v' w1 hown' hgrow _
                    have hk3 : Keep (fun _ => False) w2 w1 := ((hkp.drewN _).alloc _).grown hgrow (by
                      intro q hq hlt
                      have h4 := (World.ownsRow.lt (show World.ownsRow _ _ _ _ _ _ _ from hown) q hq).1
                      omega)
                    have hm3 : Blk w1 bm #[.string ⟨#[123]⟩, .string ⟨#[125]⟩, .string ⟨#[92, 125]⟩] 168 := hk3.blk hm1 (fun h => h)
                    have ho3 : OwnBytes w1 w2.heap.size v' (out ++ [d]) := OwnBytes.snoc (by simpa using hown')
                    have hr3 : Hid (noteGo ((bs s).drop (k + 2)) (out ++ [d]) (k + 2) = R) := by
                      have hr := HG.out
                      rw [HD'.out, C2.out, HD2.out, noteGo_bs _ _ _ _ C3.out HO.out] at hr
                      exact hr
                    clear hown' hgrow hown hm hkp
                    go_wp2_with fail
                    go_roundw
                    case rel => exact ⟨k + 2, out ++ [d], by go_num, by omega, by omega, by simp; omega, ho3, hm3, hk3, hr3⟩
                    case measure => simp [intOf]; omega
              · have hcont : ([92, 125] : List UInt8).contains d = false := by
                  simp only [List.contains_cons, List.contains_nil, Bool.or_false, Bool.or_eq_false_iff, beq_eq_false_iff_ne]
                  exact ⟨fun h => c3 (.inl h), fun h => c3 (.inr h)⟩
                have hneg := indexByte_neg [92, 125] d hcont
                have ht3 : decide (Lib.indexByte [92, 125] d < 0) = true := by rw [hneg]; rfl
                have HI : Hid (∀ (n : Int) (W : World), n = (d.toNat : Int) → Calls Tryz.prog 77 #[.string ⟨#[92, 125]⟩, .int .u8 n] W fun e w' => e = .returned (.int .i64 (Lib.indexByte [92, 125] d)) ∧ w' = W) := fun n W hn => by rw [hn]; exact indexByte_at ⟨#[92, 125]⟩ d W
                have C3 := Lib.hid c3
                clear c3 hcont hneg
                go_wp2_with fail
                go_quiet ((go_at_call 114; exact Calls.quiet_of_same (HQ.out _)))
                go_wp2_with fail
                go_quiet ((go_at_call 77; exact quiet_add_same (HI.out _ _ (by first | exact hix2 _ | rfl))))
                go_wp2_with fail
                go_ret3
                have hr := HG.out
                rw [HD'.out, C2.out, HD2.out, noteGo_bs_bad _ _ _ _ C3.out] at hr
                exact ⟨by rw [← hr]; rfl, hk2'.trans ((hkp.drewN _).drewN _)⟩
            · have e2 : (((k : Int) + 1) == (s.size : Int)) = true := by rw [beq_iff_eq]; omega
              have HE : Hid ((bs s).drop (k + 1) = []) := bs_drop_end s (k + 1) (by omega)
              go_wp2_with fail
              go_quiet ((go_at_call 114; exact Calls.quiet_of_same (HQ.out _)))
              go_wp2_with fail
              go_quiet (fail)
              go_wp2_with fail
              go_ret3
              have hr := HG.out
              rw [HD'.out, C2.out, HE.out, noteGo_bs0] at hr
              exact ⟨by rw [← hr]; rfl, hk2'.trans ((hkp.drewN _).drewN _)⟩
          · have t2 : ((c.toNat : Int) == 92) = false := by
              rw [beq_eq_false_iff_ne]; intro h
              exact c2 (by apply UInt8.toNat_inj.1; show c.toNat = 92; omega)
            have C2 := Lib.hid c2; clear c2
            obtain ⟨rb, hrb⟩ : ∃ rb, rb = rightB c := ⟨_, rfl⟩
            by_cases hrt0 : rb = true
            · subst hrt0
              have HRT : Hid (rightB c = true) := hrb.symm
              clear hrb
              by_cases ho : out.length = 1024
              · have hot : ((out.length : Int) == 1024) = true := by simp; omega
                have HO := Lib.hid ho; clear ho
                go_wp2_with fail
                go_quiet ((go_at_call 114; exact Calls.quiet_of_same (HQ.out _)))
                go_wp2_with fail
                refine (right_any c _).mono ?_
                rintro e w3 ⟨rfl, rfl⟩
                rw [HRT.out]
                go_wp2_with fail
                go_ret3
                have hr := HG.out
                rw [HD'.out, noteGo_full _ _ _ _ C1.out C2.out HRT.out HO.out] at hr
                exact ⟨by rw [← hr]; rfl, hk2'.trans (hkp.drewN _)⟩
              · have hot : ((out.length : Int) == 1024) = false := by rw [beq_eq_false_iff_ne]; omega
                have hol' : out.length < 1024 := by omega
                have HO := Lib.hid ho; clear ho
                obtain ⟨i0, hi, hz0, hz1, hz2⟩ := info_parts info_u8
                go_wp2_with fail
                go_quiet ((go_at_call 114; exact Calls.quiet_of_same (HQ.out _)))
                go_wp2_with fail
                refine (right_any c _).mono ?_
                rintro e w3 ⟨rfl, rfl⟩
                rw [HRT.out]
                go_wp2_with (at_builtin; refine wpList_append_own _ rfl _ _ 112 rfl w2.heap.size 5 i0 (.int .u8 0) 1 1 Tryz.underlying112 hi hz0 hz1 hz2 rfl (by decide) _ _ _ rfl ((hown.drewN _).alloc _) _ 1 1 [.int .u8 (c.toNat : Int)] rfl rfl ?c1B ?c2B ?c3B ?c4B ?c5B ?_)
                case c1B =>
                  intro j u hj
                  match j, hj with
                  | 0, hj => simp at hj; subst hj; simp only [Addr.add]; exact Blk.new0 _ _ _ _
                case c2B => intro u hu; simp at hu; subst hu; rfl
                case c3B => unfold maxLen; omega
                case c4B => omega
                case c5B => have := hkp.size; simp; omega
                · intro v' w1 hown' hgrow _
                  have hk3 : Keep (fun _ => False) w2 w1 := ((hkp.drewN _).alloc _).grown hgrow (by
                    intro q hq hlt
                    have h4 := (World.ownsRow.lt (show World.ownsRow _ _ _ _ _ _ _ from hown) q hq).1
                    omega)
                  have hm3 : Blk w1 bm #[.string ⟨#[123]⟩, .string ⟨#[125]⟩, .string ⟨#[92, 125]⟩] 168 := hk3.blk hm1 (fun h => h)
                  have ho3 : OwnBytes w1 w2.heap.size v' (out ++ [c]) := OwnBytes.snoc (by simpa using hown')
                  have hr3 : Hid (noteGo ((bs s).drop (k + 1)) (out ++ [c]) (k + 1) = R) := by
                    have hr := HG.out
                    rw [HD'.out, noteGo_go _ _ _ _ C1.out C2.out HRT.out HO.out] at hr
                    exact hr
                  clear hown' hgrow hown hm hkp
                  go_wp2_with fail
                  go_roundw
                  case rel => exact ⟨k + 1, out ++ [c], by go_num, by omega, by omega, by simp; omega, ho3, hm3, hk3, hr3⟩
                  case measure => simp [intOf]; omega
            · have HRT : Hid (rightB c = false) := by show rightB c = false; rw [← hrb]; simpa using hrt0
              clear hrb hrt0
              go_wp2_with fail
              go_quiet ((go_at_call 114; exact Calls.quiet_of_same (HQ.out _)))
              go_wp2_with fail
              refine (right_any c _).mono ?_
              rintro e w3 ⟨rfl, rfl⟩
              rw [HRT.out]
              go_wp2_with fail
              go_ret3
              have hr := HG.out
              rw [HD'.out, noteGo_bad _ _ _ _ C1.out C2.out HRT.out] at hr
              exact ⟨by rw [← hr]; rfl, hk2'.trans (hkp.drewN _)⟩
      · have hlt' : decide ((k : Int) < (s.size : Int)) = false := by simp; omega
        have HE : Hid ((bs s).drop k = []) := bs_drop_end s k (by omega)
        go_wp2_with fail
        go_ret3
        have hr := HG.out
        rw [HE.out, noteGo_nil] at hr
        exact ⟨by rw [← hr]; rfl, hk2'.trans hkp⟩
  · have hbf : B = false := by simpa using hb
    subst hbf
    have HR := Lib.hid hR; have HB := Lib.hid hB
    clear hR hB hb
    go_enter Tryz.func81, Tryz.ntmps81
    go_wp2_with fail
    refine (of_any _).mono ?_
    rintro e w1 ⟨rfl, hk1⟩
    unfold marksV
    go_wp2_with fail
    refine (BC _).mono ?_
    clear BC
    rintro e w2 ⟨rfl, hk2⟩
    go_wp2_with fail
    go_ret3
    refine ⟨?_, (hk1.alloc _).trans hk2⟩
    rw [HR.out]; unfold noteRead; rw [if_neg (by rw [← HB.out]; decide)]; rfl
end Go.Proofs.YtgmmjhelcpgakaaGreatDoor
