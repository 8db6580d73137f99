/- The law LexPasBlanks: the walk. -/
import Derived.Test.YtcdmkmbbliaefaaGreatDoorText3
import Derived.Test.YtcdmkmbbliaefaaGreatDoorBare
import Derived.Test.YtcdmkmbbliaefaaGreatDoorAwake
import Derived.OpenShut
namespace Go.Proofs.YtcdmkmbbliaefaaGreatDoor
open Go.RowKit
set_option linter.unusedVariables false
set_option linter.unusedSimpArgs false

def blankT (v : Nat) : ByteArray := match v % 5 with | 0 => ⟨#[32]⟩ | 1 => ⟨#[10]⟩ | 2 => ⟨#[9]⟩ | 3 => ⟨#[13]⟩ | _ => ⟨#[32, 32, 10, 32]⟩
theorem blankT_ok (v : Nat) : 0 < (bs (blankT v)).length ∧ (bs (blankT v)).length ≤ 5 ∧ ∀ c ∈ bs (blankT v), blankB c = true := by
  unfold blankT
  split <;> decide
/-- The blanks that were handed over, read. -/
def RowU (w : World) (A : Option Addr) (len : Nat) (z : List Int) : Prop :=
  ∀ i, i < len → ∃ (b off v : Nat), A = some ⟨b, off, none⟩ ∧ b < w.heap.size ∧ v < 256 ∧ z.getD i 0 = (v : Int) ∧ w.cell? ⟨b, off + i, none⟩ = some (.int .u8 (v : Int))
theorem rowU_of {w : World} {A : Option Addr} {len cap : Nat} {z : List Int} (h : (A = none ∧ len = 0 ∧ cap = 0 ∧ z = []) ∨ ∃ x, A = some x ∧ len ≤ cap ∧ cap ≤ maxLen ∧ z.length = cap ∧ (∀ i, i < z.length → w.cell? (x.add i) = some (.int .u8 (z.getD i 0))) ∧ ∀ n ∈ z, (Lit.int .u8 n).wf = true) : RowU w A len z ∧ len ≤ 9223372036854775807 := by
  rcases h with ⟨rfl, rfl, rfl, rfl⟩ | ⟨x, rfl, h1, h2, h3, h4, h5⟩
  · exact ⟨fun i hi => absurd hi (by omega), by omega⟩
  · refine ⟨fun i hi => ?_, by unfold maxLen at h2; omega⟩
    obtain ⟨b, off, rfl, hc⟩ := ints_at h4 (by omega)
    have hi2 : i < z.length := by omega
    have h6 : z.getD i 0 = z[i] := by simp [List.getD_eq_getElem?_getD, List.getElem?_eq_getElem hi2]
    have h7 := bounds_u8 (h5 z[i] (List.getElem_mem hi2))
    have h8 := hc i hi2
    obtain ⟨v, hv⟩ := Int.eq_ofNat_of_zero_le h7.1
    refine ⟨b, off, v, rfl, World.block_lt_of_cell? _ _ h8, by omega, by rw [h6, hv], ?_⟩
    rw [h8, h6, hv]
theorem RowU.below {w w' : World} {A : Option Addr} {len : Nat} {z : List Int} (h : RowU w A len z) (hb : Below w.heap.size w w') : RowU w' A len z := by
  intro i hi
  obtain ⟨b, off, v, h1, h2, h3, h4, h5⟩ := h i hi
  exact ⟨b, off, v, h1, Nat.lt_of_lt_of_le h2 hb.size, h3, h4, (hb.cell (p := ⟨b, off + i, none⟩) h2).trans h5⟩
def blAt (len : Nat) (z : List Int) (i : Nat) : Bs := if i < len then bs (blankT (z.getD i 0).toNat) else [32]
theorem blAt_ok (len : Nat) (z : List Int) (i : Nat) : 0 < (blAt len z i).length ∧ (blAt len z i).length ≤ 5 ∧ ∀ c ∈ blAt len z i, blankB c = true := by
  unfold blAt; split
  · exact blankT_ok _
  · decide
theorem escL_len : ∀ l : Bs, (escL l).length ≤ 2 * l.length
  | [] => by simp [escL]
  | c :: l => by have := escL_len l; unfold escL; split <;> simp <;> omega
theorem textOf_len (t : TokL) (h : LexT t) : (textOf t).length ≤ 200010 := by
  have hs := h.sz
  rw [← bs_len] at hs
  unfold textOf tokL
  split
  · omega
  · split
    · rename_i h3
      obtain ⟨m, e, hm⟩ := h.k3 h3
      rw [e, Int.toNat_natCast]
      have := digL_len 19 m (by omega) (by omega); omega
    · split
      · rename_i h4
        obtain ⟨m, e, hm⟩ := h.k4 h4
        rw [e, Int.toNat_natCast]
        unfold charL
        split
        · simp
        · split
          · simp
          · have := digL_len 3 m (by omega) (by omega); simp; omega
      · split
        · unfold noteL; have := escL_len (bs t.text); simp; omega
        · simp
/-! ### the walk -/
set_option maxRecDepth 100000 in
set_option maxHeartbeats 16000000 in
theorem lexPasBlanks_any (s : ByteArray) (A : Option Addr) (len cap : Nat) (z : List Int) (w : World) (hs : s.size ≤ 140737488351232)
    (hz : (A = none ∧ len = 0 ∧ cap = 0 ∧ z = []) ∨ ∃ x, A = some x ∧ len ≤ cap ∧ cap ≤ maxLen ∧ z.length = cap ∧ (∀ i, i < z.length → w.cell? (x.add i) = some (.int .u8 (z.getD i 0))) ∧ ∀ n ∈ z, (Lit.int .u8 n).wf = true) (hg : Glob w.heap.size w) :
    Calls Tryz.prog 4 #[.string s, .slice A len cap] w fun e w' => e = .returned (.bool true) ∧ Below w.heap.size w w' := by
  have hu28 := Tryz.underlying28
  have hu26 := Tryz.underlying26
  have hu38 := Tryz.underlying38
  obtain ⟨hrow, hlen⟩ := rowU_of hz
  have HROW := Lib.hid hrow
  clear hz hrow
  by_cases hbig : 3000 < s.size
  · have ht : decide ((3000 : Int) < (s.size : Int)) = true := by simp; omega
    have HAW := Lib.hid (awake_any w hg)
    clear hg
    go_enter Tryz.func4, Tryz.ntmps4
    go_wp2_with fail
    refine HAW.out.mono ?_
    rintro e2 w2 ⟨rfl, hb⟩
    go_wp2_with fail
    go_ret
    exact ⟨rfl, hb⟩
  · have ht : decide ((3000 : Int) < (s.size : Int)) = false := by simp; omega
    have hsm : s.size ≤ 3000 := by omega
    obtain ⟨R, hR⟩ : ∃ R, R = lexAll s := ⟨_, rfl⟩
    have HA := Lib.hid (all_any s w hs hg)
    rw [← hR] at HA
    have hcnt := lexAll_count s
    rw [← hR] at hcnt
    have HGL := Lib.hid hg
    have HLT : Hid (R.code = 0 → ∀ t ∈ R.toks, LexT t) := fun h t ht' => lexT_of s hsm (by rw [← hR]; exact h) t (by rw [← hR]; exact ht')
    have HLAW : Hid (R.code = 0 → ∀ T : ByteArray, bs T = catT (blAt len z) 0 R.toks → T.size ≤ 21005 ∧ (lexAll T).code = 0 ∧ (lexAll T).toks.map bare = R.toks.map bare) := by
      intro h T hT
      rw [hR] at h hT ⊢
      exact blanks_law s hsm h (blAt len z) (blAt_ok len z) T hT
    obtain ⟨toks, code, pos⟩ := R
    clear hg hR hbig
    unfold AllPost at HA
    go_enter Tryz.func4, Tryz.ntmps4
    go_wp2_with fail
    refine HA.out.mono ?_
    rintro e1 w1 ⟨v1, rfl, ho1, hb1⟩
    obtain ⟨A1, c1, rfl⟩ := ho1.form
    have HB1 := Lib.hid hb1
    have HO1 := Lib.hid ho1
    clear hb1 ho1
    unfold diagV
    by_cases hcode : code = 0
    · subst hcode
      have tc : (((0 : Nat) : Int) != 0) = false := rfl
      have HLT0 := Lib.hid (HLT.out rfl)
      have HLAW0 := Lib.hid (HLAW.out rfl)
      clear HLT HLAW HA
      go_wp2_with fail
      obtain ⟨w2, hw2⟩ : ∃ w2, w2 = w1.alloc (.cells #[.int .i64 0, .int .i64 pos.1, .int .i64 pos.2.1, .int .i64 pos.2.2] 28) := ⟨_, rfl⟩
      rw [← hw2]
      have HB2 := Lib.hid (show Below w.heap.size w w2 by rw [hw2]; exact HB1.out.alloc HB1.out.size _)
      have HO2 := Lib.hid (show OwnToks w2 w.heap.size (.slice A1 toks.length c1) toks by rw [hw2]; exact ownsRow_keep HO1.out ((Keep.refl (fun _ => False) w1).alloc _) (fun _ _ h => h))
      have HRW2 := Lib.hid (HROW.out.below HB2.out)
      clear hw2
      obtain ⟨n, HN⟩ : ∃ n, Hid (n = toks.length) := ⟨_, Lib.hid rfl⟩
      rw [← HN.out] at hcnt ⊢
      go_loopw [7, 8] (fun tv i wr => ∃ (k : Nat) (T : ByteArray), k ≤ n ∧ i = .int .i64 k ∧ tv = .string T ∧ T.size ≤ k * 300000 ∧ Hid (bs T = catT (blAt len z) 0 (toks.take k)) ∧ Keep (fun _ => False) w2 wr) (fun _ i _ => n - (intOf i).toNat)
      case atStart => exact ⟨0, ⟨#[]⟩, Nat.zero_le _, rfl, rfl, by decide, Lib.hid rfl, Keep.refl _ _⟩
      case round =>
        obtain ⟨k, T, hk, rfl, rfl, hTs, HT, hkp⟩ := hrel
        have HKP := Lib.hid hkp
        clear hkp
        by_cases hkn : k < n
        · obtain ⟨t, ht⟩ : ∃ t, toks[k]? = some t := ⟨toks[k]'(by rw [← HN.out]; exact hkn), List.getElem?_eq_getElem _⟩
          have how := ownsRow_keep HO2.out HKP.out (fun _ _ h => h)
          obtain ⟨g, rfl, hbg, hgl, hcell⟩ := OwnToks.at2 (n := toks.length) how rfl k t ht
          have k0 := hcell 0 (by decide)
          have k1 := hcell 1 (by decide)
          have k2 := hcell 2 (by decide)
          have k3 := hcell 3 (by decide)
          have k4 := hcell 4 (by decide)
          have k5 := hcell 5 (by decide)
          have k6 := hcell 6 (by decide)
          simp only [tokC, List.getElem?_cons_succ, List.getElem?_cons_zero, Nat.add_zero] at k0 k1 k2 k3 k4 k5 k6
          have hj0 : (0 : Int) ≤ (k : Int) := by omega
          have hj1 : (k : Int) < (n : Int) := by omega
          have tn : decide ((k : Int) < (n : Int)) = true := by simp; omega
          have htl := textOf_len t (HLT0.out t (List.mem_of_getElem? ht))
          have HTX := Lib.hid (fun W => refText_any t (HLT0.out t (List.mem_of_getElem? ht)) W)
          obtain ⟨X, hX⟩ : ∃ X : ByteArray, X = ⟨(textOf t).toArray⟩ := ⟨_, rfl⟩
          rw [← hX] at HTX
          have hXs : X.size ≤ 200010 := by rw [hX]; show (textOf t).toArray.size ≤ _; rw [List.size_toArray]; exact htl
          have hXb : bs X = textOf t := by rw [hX]; exact bs_mk _
          have HXB := Lib.hid hXb
          have HTK : Hid (toks.take (k + 1) = toks.take k ++ [t]) := by
            show _ = _
            have hlk : k < toks.length := by rw [← HN.out]; exact hkn
            rw [List.take_succ_eq_append_getElem hlk]
            rw [List.getElem?_eq_getElem hlk] at ht
            injection ht with ht
            rw [ht]
          have hkl : (toks.take k).length = k := by rw [List.length_take, ← HN.out]; omega
          have HKL := Lib.hid hkl
          have HCAT : Hid (∀ B : ByteArray, bs B = blAt len z k → bs ((T ++ B) ++ X) = catT (blAt len z) 0 (toks.take (k + 1))) := by
            intro B hB
            rw [HTK.out, catT_snoc, HKL.out, Nat.zero_add, ← HT.out, ← hB, ← HXB.out]
            unfold bs
            simp [ByteArray.data_append]
          have hcat1 : k * 300000 ≤ 70000 * 300000 := Nat.mul_le_mul_right _ (by omega)
          clear hX hXb ht how hcell htl hkl
          by_cases hkl2 : k < len
          · obtain ⟨b, off, v, rfl, hbl, hv, hzv, hcv⟩ := HRW2.out k hkl2
            have hcv2 := HKP.out.cell hcv (fun h => h)
            have tl : decide ((k : Int) < (len : Int)) = true := by simp; omega
            have hj2 : (k : Int) < (len : Int) := by omega
            have hblk : blAt len z k = bs (blankT v) := by unfold blAt; rw [if_pos hkl2, hzv, Int.toNat_natCast]
            have HBLK := Lib.hid hblk
            clear hcv hzv hblk
            have v0 : (0 : Int) ≤ (v : Int) := by omega
            have v1 : (v : Int) ≤ 255 := by omega
            have hr5 : v % 5 = 0 ∨ v % 5 = 1 ∨ v % 5 = 2 ∨ v % 5 = 3 ∨ v % 5 = 4 := by omega
            rcases hr5 with hr | hr | hr | hr | hr
            · skip
              have hri : (v : Int) % 5 = 0 := by omega
              have HC2 := Lib.hid (HCAT.out ⟨#[32]⟩ (by rw [HBLK.out]; unfold blankT; rw [hr]; rfl))
              clear hr
              have a1 : ∀ W : World, (Op.stringOp .add T ⟨#[32]⟩).run Tryz.prog W = .ok (.string (T ++ ⟨#[32]⟩)) W := fun W => run_string_add_sum (P := Tryz.prog) W T ⟨#[32]⟩ (by show T.size + 1 ≤ 9223372036854775807; omega)
              have a2 : ∀ W : World, (Op.stringOp .add (T ++ ⟨#[32]⟩) X).run Tryz.prog W = .ok (.string ((T ++ ⟨#[32]⟩) ++ X)) W := fun W => run_string_add_sum (P := Tryz.prog) W (T ++ ⟨#[32]⟩) X (by rw [ByteArray.size_append]; show T.size + 1 + X.size ≤ 9223372036854775807; omega)
              have HTB : Hid ((T ++ ⟨#[32]⟩ ++ X).size ≤ (k + 1) * 300000) := by show _ ≤ _; rw [ByteArray.size_append, ByteArray.size_append]; show T.size + 1 + X.size ≤ _; omega
              obtain ⟨Y, hY⟩ : ∃ Y, Y = T ++ ⟨#[32]⟩ ++ X := ⟨_, rfl⟩
              rw [← hY] at HC2 HTB a2
              clear hY
              go_upto_region 12 with (fail)
              have hbw : b < wr.heap.size := by have := HKP.out.size; omega
              have hq : ∀ X : Obj, (wr.alloc X).cell? ⟨b, off + k, none⟩ = some (.int .u8 (v : Int)) := fun X => (World.cell?_alloc_lt wr X ⟨b, off + k, none⟩ hbw).trans hcv2
              have HC := Lib.hid (And.intro k0 (And.intro k1 (And.intro k2 (And.intro k3 (And.intro k4 (And.intro k5 k6))))))
              clear hcv2 k0 k1 k2 k3 k4 k5 k6
              go_upto_region 13 with (fail)
              obtain ⟨w5, hw5⟩ : ∃ w5, w5 = wr.alloc (.cells #[.string ⟨#[32]⟩, .string ⟨#[10]⟩, .string ⟨#[9]⟩, .string ⟨#[13]⟩, .string ⟨#[32, 32, 10, 32]⟩] 9) := ⟨_, rfl⟩
              rw [← hw5]
              have HK5 : Hid (Keep (fun _ => False) wr w5) := by show Keep _ _ _; rw [hw5]; exact (Keep.refl _ _).alloc _
              clear hw5 hq
              obtain ⟨k0, k1, k2, k3, k4, k5, k6⟩ := HC.out
              replace k0 := HK5.out.cell k0 (fun h => h)
              replace k1 := HK5.out.cell k1 (fun h => h)
              replace k2 := HK5.out.cell k2 (fun h => h)
              replace k3 := HK5.out.cell k3 (fun h => h)
              replace k4 := HK5.out.cell k4 (fun h => h)
              replace k5 := HK5.out.cell k5 (fun h => h)
              replace k6 := HK5.out.cell k6 (fun h => h)
              go_wp2_with fail
              refine (HTX.out _).mono ?_
              rintro e3 w3 ⟨rfl, hk3⟩
              have HK3 := Lib.hid ((HKP.out.trans HK5.out).trans hk3)
              clear hk3 k0 k1 k2 k3 k4 k5 k6
              go_wp2_with fail
              go_roundw
              case rel => exact ⟨k + 1, Y, by omega, by go_num, rfl, HTB.out, HC2, HK3.out⟩
              case measure => simp [intOf]; omega
            · skip
              have hri : (v : Int) % 5 = 1 := by omega
              have HC2 := Lib.hid (HCAT.out ⟨#[10]⟩ (by rw [HBLK.out]; unfold blankT; rw [hr]; rfl))
              clear hr
              have a1 : ∀ W : World, (Op.stringOp .add T ⟨#[10]⟩).run Tryz.prog W = .ok (.string (T ++ ⟨#[10]⟩)) W := fun W => run_string_add_sum (P := Tryz.prog) W T ⟨#[10]⟩ (by show T.size + 1 ≤ 9223372036854775807; omega)
              have a2 : ∀ W : World, (Op.stringOp .add (T ++ ⟨#[10]⟩) X).run Tryz.prog W = .ok (.string ((T ++ ⟨#[10]⟩) ++ X)) W := fun W => run_string_add_sum (P := Tryz.prog) W (T ++ ⟨#[10]⟩) X (by rw [ByteArray.size_append]; show T.size + 1 + X.size ≤ 9223372036854775807; omega)
              have HTB : Hid ((T ++ ⟨#[10]⟩ ++ X).size ≤ (k + 1) * 300000) := by show _ ≤ _; rw [ByteArray.size_append, ByteArray.size_append]; show T.size + 1 + X.size ≤ _; omega
              obtain ⟨Y, hY⟩ : ∃ Y, Y = T ++ ⟨#[10]⟩ ++ X := ⟨_, rfl⟩
              rw [← hY] at HC2 HTB a2
              clear hY
              go_upto_region 12 with (fail)
              have hbw : b < wr.heap.size := by have := HKP.out.size; omega
              have hq : ∀ X : Obj, (wr.alloc X).cell? ⟨b, off + k, none⟩ = some (.int .u8 (v : Int)) := fun X => (World.cell?_alloc_lt wr X ⟨b, off + k, none⟩ hbw).trans hcv2
              have HC := Lib.hid (And.intro k0 (And.intro k1 (And.intro k2 (And.intro k3 (And.intro k4 (And.intro k5 k6))))))
              clear hcv2 k0 k1 k2 k3 k4 k5 k6
              go_upto_region 13 with (fail)
              obtain ⟨w5, hw5⟩ : ∃ w5, w5 = wr.alloc (.cells #[.string ⟨#[32]⟩, .string ⟨#[10]⟩, .string ⟨#[9]⟩, .string ⟨#[13]⟩, .string ⟨#[32, 32, 10, 32]⟩] 9) := ⟨_, rfl⟩
              rw [← hw5]
              have HK5 : Hid (Keep (fun _ => False) wr w5) := by show Keep _ _ _; rw [hw5]; exact (Keep.refl _ _).alloc _
              clear hw5 hq
              obtain ⟨k0, k1, k2, k3, k4, k5, k6⟩ := HC.out
              replace k0 := HK5.out.cell k0 (fun h => h)
              replace k1 := HK5.out.cell k1 (fun h => h)
              replace k2 := HK5.out.cell k2 (fun h => h)
              replace k3 := HK5.out.cell k3 (fun h => h)
              replace k4 := HK5.out.cell k4 (fun h => h)
              replace k5 := HK5.out.cell k5 (fun h => h)
              replace k6 := HK5.out.cell k6 (fun h => h)
              go_wp2_with fail
              refine (HTX.out _).mono ?_
              rintro e3 w3 ⟨rfl, hk3⟩
              have HK3 := Lib.hid ((HKP.out.trans HK5.out).trans hk3)
              clear hk3 k0 k1 k2 k3 k4 k5 k6
              go_wp2_with fail
              go_roundw
              case rel => exact ⟨k + 1, Y, by omega, by go_num, rfl, HTB.out, HC2, HK3.out⟩
              case measure => simp [intOf]; omega
            · skip
              have hri : (v : Int) % 5 = 2 := by omega
              have HC2 := Lib.hid (HCAT.out ⟨#[9]⟩ (by rw [HBLK.out]; unfold blankT; rw [hr]; rfl))
              clear hr
              have a1 : ∀ W : World, (Op.stringOp .add T ⟨#[9]⟩).run Tryz.prog W = .ok (.string (T ++ ⟨#[9]⟩)) W := fun W => run_string_add_sum (P := Tryz.prog) W T ⟨#[9]⟩ (by show T.size + 1 ≤ 9223372036854775807; omega)
              have a2 : ∀ W : World, (Op.stringOp .add (T ++ ⟨#[9]⟩) X).run Tryz.prog W = .ok (.string ((T ++ ⟨#[9]⟩) ++ X)) W := fun W => run_string_add_sum (P := Tryz.prog) W (T ++ ⟨#[9]⟩) X (by rw [ByteArray.size_append]; show T.size + 1 + X.size ≤ 9223372036854775807; omega)
              have HTB : Hid ((T ++ ⟨#[9]⟩ ++ X).size ≤ (k + 1) * 300000) := by show _ ≤ _; rw [ByteArray.size_append, ByteArray.size_append]; show T.size + 1 + X.size ≤ _; omega
              obtain ⟨Y, hY⟩ : ∃ Y, Y = T ++ ⟨#[9]⟩ ++ X := ⟨_, rfl⟩
              rw [← hY] at HC2 HTB a2
              clear hY
              go_upto_region 12 with (fail)
              have hbw : b < wr.heap.size := by have := HKP.out.size; omega
              have hq : ∀ X : Obj, (wr.alloc X).cell? ⟨b, off + k, none⟩ = some (.int .u8 (v : Int)) := fun X => (World.cell?_alloc_lt wr X ⟨b, off + k, none⟩ hbw).trans hcv2
              have HC := Lib.hid (And.intro k0 (And.intro k1 (And.intro k2 (And.intro k3 (And.intro k4 (And.intro k5 k6))))))
              clear hcv2 k0 k1 k2 k3 k4 k5 k6
              go_upto_region 13 with (fail)
              obtain ⟨w5, hw5⟩ : ∃ w5, w5 = wr.alloc (.cells #[.string ⟨#[32]⟩, .string ⟨#[10]⟩, .string ⟨#[9]⟩, .string ⟨#[13]⟩, .string ⟨#[32, 32, 10, 32]⟩] 9) := ⟨_, rfl⟩
              rw [← hw5]
              have HK5 : Hid (Keep (fun _ => False) wr w5) := by show Keep _ _ _; rw [hw5]; exact (Keep.refl _ _).alloc _
              clear hw5 hq
              obtain ⟨k0, k1, k2, k3, k4, k5, k6⟩ := HC.out
              replace k0 := HK5.out.cell k0 (fun h => h)
              replace k1 := HK5.out.cell k1 (fun h => h)
              replace k2 := HK5.out.cell k2 (fun h => h)
              replace k3 := HK5.out.cell k3 (fun h => h)
              replace k4 := HK5.out.cell k4 (fun h => h)
              replace k5 := HK5.out.cell k5 (fun h => h)
              replace k6 := HK5.out.cell k6 (fun h => h)
              go_wp2_with fail
              refine (HTX.out _).mono ?_
              rintro e3 w3 ⟨rfl, hk3⟩
              have HK3 := Lib.hid ((HKP.out.trans HK5.out).trans hk3)
              clear hk3 k0 k1 k2 k3 k4 k5 k6
              go_wp2_with fail
              go_roundw
              case rel => exact ⟨k + 1, Y, by omega, by go_num, rfl, HTB.out, HC2, HK3.out⟩
              case measure => simp [intOf]; omega
            · skip
              have hri : (v : Int) % 5 = 3 := by omega
              have HC2 := Lib.hid (HCAT.out ⟨#[13]⟩ (by rw [HBLK.out]; unfold blankT; rw [hr]; rfl))
              clear hr
              have a1 : ∀ W : World, (Op.stringOp .add T ⟨#[13]⟩).run Tryz.prog W = .ok (.string (T ++ ⟨#[13]⟩)) W := fun W => run_string_add_sum (P := Tryz.prog) W T ⟨#[13]⟩ (by show T.size + 1 ≤ 9223372036854775807; omega)
              have a2 : ∀ W : World, (Op.stringOp .add (T ++ ⟨#[13]⟩) X).run Tryz.prog W = .ok (.string ((T ++ ⟨#[13]⟩) ++ X)) W := fun W => run_string_add_sum (P := Tryz.prog) W (T ++ ⟨#[13]⟩) X (by rw [ByteArray.size_append]; show T.size + 1 + X.size ≤ 9223372036854775807; omega)
              have HTB : Hid ((T ++ ⟨#[13]⟩ ++ X).size ≤ (k + 1) * 300000) := by show _ ≤ _; rw [ByteArray.size_append, ByteArray.size_append]; show T.size + 1 + X.size ≤ _; omega
              obtain ⟨Y, hY⟩ : ∃ Y, Y = T ++ ⟨#[13]⟩ ++ X := ⟨_, rfl⟩
              rw [← hY] at HC2 HTB a2
              clear hY
              go_upto_region 12 with (fail)
              have hbw : b < wr.heap.size := by have := HKP.out.size; omega
              have hq : ∀ X : Obj, (wr.alloc X).cell? ⟨b, off + k, none⟩ = some (.int .u8 (v : Int)) := fun X => (World.cell?_alloc_lt wr X ⟨b, off + k, none⟩ hbw).trans hcv2
              have HC := Lib.hid (And.intro k0 (And.intro k1 (And.intro k2 (And.intro k3 (And.intro k4 (And.intro k5 k6))))))
              clear hcv2 k0 k1 k2 k3 k4 k5 k6
              go_upto_region 13 with (fail)
              obtain ⟨w5, hw5⟩ : ∃ w5, w5 = wr.alloc (.cells #[.string ⟨#[32]⟩, .string ⟨#[10]⟩, .string ⟨#[9]⟩, .string ⟨#[13]⟩, .string ⟨#[32, 32, 10, 32]⟩] 9) := ⟨_, rfl⟩
              rw [← hw5]
              have HK5 : Hid (Keep (fun _ => False) wr w5) := by show Keep _ _ _; rw [hw5]; exact (Keep.refl _ _).alloc _
              clear hw5 hq
              obtain ⟨k0, k1, k2, k3, k4, k5, k6⟩ := HC.out
              replace k0 := HK5.out.cell k0 (fun h => h)
              replace k1 := HK5.out.cell k1 (fun h => h)
              replace k2 := HK5.out.cell k2 (fun h => h)
              replace k3 := HK5.out.cell k3 (fun h => h)
              replace k4 := HK5.out.cell k4 (fun h => h)
              replace k5 := HK5.out.cell k5 (fun h => h)
              replace k6 := HK5.out.cell k6 (fun h => h)
              go_wp2_with fail
              refine (HTX.out _).mono ?_
              rintro e3 w3 ⟨rfl, hk3⟩
              have HK3 := Lib.hid ((HKP.out.trans HK5.out).trans hk3)
              clear hk3 k0 k1 k2 k3 k4 k5 k6
              go_wp2_with fail
              go_roundw
              case rel => exact ⟨k + 1, Y, by omega, by go_num, rfl, HTB.out, HC2, HK3.out⟩
              case measure => simp [intOf]; omega
            · skip
              have hri : (v : Int) % 5 = 4 := by omega
              have HC2 := Lib.hid (HCAT.out ⟨#[32, 32, 10, 32]⟩ (by rw [HBLK.out]; unfold blankT; rw [hr]; rfl))
              clear hr
              have a1 : ∀ W : World, (Op.stringOp .add T ⟨#[32, 32, 10, 32]⟩).run Tryz.prog W = .ok (.string (T ++ ⟨#[32, 32, 10, 32]⟩)) W := fun W => run_string_add_sum (P := Tryz.prog) W T ⟨#[32, 32, 10, 32]⟩ (by show T.size + 4 ≤ 9223372036854775807; omega)
              have a2 : ∀ W : World, (Op.stringOp .add (T ++ ⟨#[32, 32, 10, 32]⟩) X).run Tryz.prog W = .ok (.string ((T ++ ⟨#[32, 32, 10, 32]⟩) ++ X)) W := fun W => run_string_add_sum (P := Tryz.prog) W (T ++ ⟨#[32, 32, 10, 32]⟩) X (by rw [ByteArray.size_append]; show T.size + 4 + X.size ≤ 9223372036854775807; omega)
              have HTB : Hid ((T ++ ⟨#[32, 32, 10, 32]⟩ ++ X).size ≤ (k + 1) * 300000) := by show _ ≤ _; rw [ByteArray.size_append, ByteArray.size_append]; show T.size + 4 + X.size ≤ _; omega
              obtain ⟨Y, hY⟩ : ∃ Y, Y = T ++ ⟨#[32, 32, 10, 32]⟩ ++ X := ⟨_, rfl⟩
              rw [← hY] at HC2 HTB a2
              clear hY
              go_upto_region 12 with (fail)
              have hbw : b < wr.heap.size := by have := HKP.out.size; omega
              have hq : ∀ X : Obj, (wr.alloc X).cell? ⟨b, off + k, none⟩ = some (.int .u8 (v : Int)) := fun X => (World.cell?_alloc_lt wr X ⟨b, off + k, none⟩ hbw).trans hcv2
              have HC := Lib.hid (And.intro k0 (And.intro k1 (And.intro k2 (And.intro k3 (And.intro k4 (And.intro k5 k6))))))
              clear hcv2 k0 k1 k2 k3 k4 k5 k6
              go_upto_region 13 with (fail)
              obtain ⟨w5, hw5⟩ : ∃ w5, w5 = wr.alloc (.cells #[.string ⟨#[32]⟩, .string ⟨#[10]⟩, .string ⟨#[9]⟩, .string ⟨#[13]⟩, .string ⟨#[32, 32, 10, 32]⟩] 9) := ⟨_, rfl⟩
              rw [← hw5]
              have HK5 : Hid (Keep (fun _ => False) wr w5) := by show Keep _ _ _; rw [hw5]; exact (Keep.refl _ _).alloc _
              clear hw5 hq
              obtain ⟨k0, k1, k2, k3, k4, k5, k6⟩ := HC.out
              replace k0 := HK5.out.cell k0 (fun h => h)
              replace k1 := HK5.out.cell k1 (fun h => h)
              replace k2 := HK5.out.cell k2 (fun h => h)
              replace k3 := HK5.out.cell k3 (fun h => h)
              replace k4 := HK5.out.cell k4 (fun h => h)
              replace k5 := HK5.out.cell k5 (fun h => h)
              replace k6 := HK5.out.cell k6 (fun h => h)
              go_wp2_with fail
              refine (HTX.out _).mono ?_
              rintro e3 w3 ⟨rfl, hk3⟩
              have HK3 := Lib.hid ((HKP.out.trans HK5.out).trans hk3)
              clear hk3 k0 k1 k2 k3 k4 k5 k6
              go_wp2_with fail
              go_roundw
              case rel => exact ⟨k + 1, Y, by omega, by go_num, rfl, HTB.out, HC2, HK3.out⟩
              case measure => simp [intOf]; omega
          · have tl : decide ((k : Int) < (len : Int)) = false := by simp; omega
            have a1 : ∀ W : World, (Op.stringOp .add T ⟨#[32]⟩).run Tryz.prog W = .ok (.string (T ++ ⟨#[32]⟩)) W := fun W => run_string_add_sum (P := Tryz.prog) W T ⟨#[32]⟩ (by show T.size + 1 ≤ 9223372036854775807; omega)
            have a2 : ∀ W : World, (Op.stringOp .add (T ++ ⟨#[32]⟩) X).run Tryz.prog W = .ok (.string ((T ++ ⟨#[32]⟩) ++ X)) W := fun W => run_string_add_sum (P := Tryz.prog) W (T ++ ⟨#[32]⟩) X (by rw [ByteArray.size_append]; show T.size + 1 + X.size ≤ 9223372036854775807; omega)
            have HC2 := Lib.hid (HCAT.out ⟨#[32]⟩ (by unfold blAt; rw [if_neg hkl2]; rfl))
            go_wp2_with fail
            refine (HTX.out _).mono ?_
            rintro e3 w3 ⟨rfl, hk3⟩
            have HK3 := Lib.hid (HKP.out.trans hk3)
            clear hk3
            go_wp2_with fail
            go_roundw
            case rel => exact ⟨k + 1, _, by omega, by go_num, rfl, by rw [ByteArray.size_append, ByteArray.size_append]; show T.size + 1 + X.size ≤ _; omega, HC2, HK3.out⟩
            case measure => simp [intOf]; omega
        · obtain rfl : k = n := by omega
          have tn : decide ((k : Int) < (k : Int)) = false := by simp
          have hTb : bs T = catT (blAt len z) 0 toks := by rw [HT.out, HN.out, List.take_length]
          obtain ⟨hTs2, hTc, hTm⟩ := HLAW0.out T hTb
          have HB3 := Lib.hid (HB2.out.trans (HKP.out.belowB HB2.out.size))
          have HA3 := Lib.hid (all_any T wr (by omega) ((HGL.out.below HB3.out (Nat.le_refl _)).mono HB3.out.size))
          obtain ⟨R3, hR3⟩ : ∃ R3, R3 = lexAll T := ⟨_, rfl⟩
          rw [← hR3] at HA3 hTc hTm
          have hcnt3 := lexAll_count T
          rw [← hR3] at hcnt3
          have HO3 := Lib.hid (ownsRow_keep HO2.out HKP.out (fun _ _ h => h))
          obtain ⟨toks3, code3, pos3⟩ := R3
          simp only at hTc hTm hcnt3
          subst hTc
          have HTM := Lib.hid hTm
          have hc3 : toks3.length ≤ 21006 := by omega
          clear hR3 hTb hTs2 hTm
          unfold AllPost at HA3
          go_wp2_with fail
          refine HA3.out.mono ?_
          rintro e4 w4 ⟨v4, rfl, ho4, hb4⟩
          obtain ⟨A4, c4, rfl⟩ := ho4.form
          have HO4 := Lib.hid ho4
          have HB4 := Lib.hid hb4
          clear ho4 hb4
          unfold diagV
          obtain ⟨w5, hw5⟩ : ∃ w5, w5 = w4.alloc (.cells #[.int .i64 0, .int .i64 pos3.1, .int .i64 pos3.2.1, .int .i64 pos3.2.2] 28) := ⟨_, rfl⟩
          have HK5 := Lib.hid (show Keep (fun _ => False) w4 w5 by rw [hw5]; exact (Keep.refl _ _).alloc _)
          have HB5 := Lib.hid (show Below w.heap.size w w5 from (HB3.out.trans (HB4.out.mono HB3.out.size)).trans (HK5.out.belowB (Nat.le_trans HB3.out.size HB4.out.size)))
          have HO35 := Lib.hid (show OwnToks w5 w.heap.size (.slice A1 toks.length c1) toks from ownsRow_keep HO3.out ((Keep.of_below' HB4.out).trans (HK5.out.mono (fun _ _ h => h.elim))) (fun q hq h => by have := (World.ownsRow.lt (show World.ownsRow _ _ _ _ _ _ _ from HO3.out) q hq).2; omega))
          have HO45 := Lib.hid (ownsRow_keep HO4.out HK5.out (fun _ _ h => h))
          have HBA1 := Lib.hid (refBare_any A1 toks.length c1 w.heap.size toks w5 HO35.out rfl (by have := HN.out; omega))
          rw [← HN.out] at HBA1
          go_wp2_with fail
          rw [← hw5]
          clear hw5
          refine HBA1.out.mono ?_
          rintro e5 w6 ⟨v6, rfl, ho6, hk6⟩
          obtain ⟨L, HL⟩ : ∃ L, Hid (L = toks.map bare) := ⟨_, Lib.hid rfl⟩
          rw [← HL.out] at ho6
          obtain ⟨A6, c6, rfl⟩ := ho6.form
          have HO6 := Lib.hid ho6
          have HK6 := Lib.hid hk6
          clear ho6 hk6
          have hLl : L.length ≤ 70000 := by rw [HL.out, List.length_map]; have := HN.out; omega
          have HBA2 := Lib.hid (refBare_any A4 toks3.length c4 wr.heap.size toks3 w6 (ownsRow_keep HO45.out HK6.out (fun _ _ h => h)) rfl (by omega))
          go_wp2_with fail
          refine HBA2.out.mono ?_
          rintro e7 w7 ⟨v7, rfl, ho7, hk7⟩
          rw [HTM.out, ← HL.out] at ho7
          obtain ⟨A7, c7, rfl⟩ := ho7.form
          have HO7 := Lib.hid ho7
          have HK7 := Lib.hid hk7
          clear ho7 hk7
          have HS := Lib.hid (refSame_any A6 A7 L.length c6 c7 w5.heap.size w6.heap.size L w7 (ownsRow_keep HO6.out HK7.out (fun _ _ h => h)) HO7.out rfl (by omega))
          have HB7 := Lib.hid (HB5.out.trans ((HK6.out.trans HK7.out).belowB HB5.out.size))
          go_wp2_with fail
          refine HS.out.mono ?_
          rintro e8 w8 ⟨rfl, hd8⟩
          have HB8 := Lib.hid (HB7.out.trans ((hd8.keep (P := fun _ => False)).belowB HB7.out.size))
          clear hd8
          have HAW := Lib.hid (awake_any w8 ((HGL.out.below HB8.out (Nat.le_refl _)).mono HB8.out.size))
          go_wp2_with fail
          refine HAW.out.mono ?_
          rintro e9 w9 ⟨rfl, hb9⟩
          go_wp2_with fail
          go_ret
          exact ⟨rfl, HB8.out.trans (hb9.mono HB8.out.size)⟩
    · have tc : ((code : Int) != 0) = true := by rw [bne_iff_ne]; omega
      have HW2 : Hid (Below w.heap.size w (w1.alloc (.cells #[.int .i64 code, .int .i64 pos.1, .int .i64 pos.2.1, .int .i64 pos.2.2] 28))) := HB1.out.alloc HB1.out.size _
      have HAW := Lib.hid (awake_any _ ((HGL.out.below HW2.out (Nat.le_refl _)).mono HW2.out.size))
      go_wp2_with fail
      refine HAW.out.mono ?_
      rintro e2 w2 ⟨rfl, hb⟩
      go_wp2_with fail
      go_ret
      exact ⟨rfl, HW2.out.trans (hb.mono HW2.out.size)⟩
end Go.Proofs.YtcdmkmbbliaefaaGreatDoor
