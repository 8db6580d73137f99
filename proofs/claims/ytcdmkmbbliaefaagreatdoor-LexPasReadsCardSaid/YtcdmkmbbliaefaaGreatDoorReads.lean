/- The law LexPasReads: the walk. -/
import Derived.Test.YtcdmkmbbliaefaaGreatDoorRef9
import Derived.Test.YtcdmkmbbliaefaaGreatDoorBare
import Derived.Outline
namespace Go.Proofs.YtcdmkmbbliaefaaGreatDoor
open Go.RowKit
set_option linter.unusedVariables false
set_option linter.unusedSimpArgs false

set_option maxRecDepth 100000 in
set_option maxHeartbeats 4000000 in
theorem lexPasReads_any (s : ByteArray) (w : World) (hs : s.size ≤ 140737488351232) (hg : Glob w.heap.size w) :
    Calls Tryz.prog 3 #[.string s] w fun e w' => e = .returned (.bool true) ∧ Below w.heap.size w w' := by
  have hu28 := Tryz.underlying28
  have hu26 := Tryz.underlying26
  by_cases hbig : 70000 < s.size
  · have ht : decide ((70000 : Int) < (s.size : Int)) = true := by simp; omega
    have HAW := Lib.hid (awake_any w hg)
    clear hg
    go_enter Tryz.func3, Tryz.ntmps3
    go_wp2_with fail
    refine HAW.out.mono ?_
    rintro e2 w2 ⟨rfl, hb⟩
    go_wp2_with fail
    go_ret
    exact ⟨rfl, hb⟩
  · have ht : decide ((70000 : Int) < (s.size : Int)) = false := by simp; omega
    obtain ⟨R, hR⟩ : ∃ R, R = lexAll s := ⟨_, rfl⟩
    have HA := Lib.hid (all_any s w hs hg)
    have HRA := Lib.hid (fun W => refAll_any s W hs)
    rw [← hR] at HA HRA
    have hcnt := lexAll_count s
    rw [← hR] at hcnt
    have HGL := Lib.hid hg
    obtain ⟨toks, code, pos⟩ := R
    have hsm : s.size ≤ 70000 := by omega
    clear hg hR hbig
    unfold AllPost at HA
    go_enter Tryz.func3, Tryz.ntmps3
    go_wp2_with fail
    refine HA.out.mono ?_
    rintro e1 w1 ⟨v1, rfl, ho1, hb1⟩
    obtain ⟨A1, c1, rfl⟩ := ho1.form
    have HB1 := Lib.hid hb1
    have HO1 := Lib.hid ho1
    clear hb1 ho1
    unfold diagV
    go_wp2_with fail
    obtain ⟨w2, hw2⟩ : ∃ w2, w2 = w1.alloc (.cells #[.int .i64 code, .int .i64 pos.1, .int .i64 pos.2.1, .int .i64 pos.2.2] 28) := ⟨_, rfl⟩
    rw [← hw2]
    have HD2 := Lib.hid (show Blk w2 w1.heap.size #[.int .i64 code, .int .i64 pos.1, .int .i64 pos.2.1, .int .i64 pos.2.2] 28 by rw [hw2]; exact Blk.new _ _ _)
    have HB2 := Lib.hid (show Below w.heap.size w w2 by rw [hw2]; exact HB1.out.alloc HB1.out.size _)
    have HK2 := Lib.hid (show Keep (fun _ => False) w1 w2 by rw [hw2]; exact (Keep.refl _ _).alloc _)
    clear hw2
    refine (HRA.out _).mono ?_
    rintro e3 w3 ⟨v3, rfl, ho3, hk3⟩
    obtain ⟨A3, c3, rfl⟩ := ho3.form
    have HO3 := Lib.hid ho3
    have HK3 := Lib.hid hk3
    clear ho3 hk3
    unfold diagV
    go_wp2_with fail
    obtain ⟨w4, hw4⟩ : ∃ w4, w4 = w3.alloc (.cells #[.int .i64 code, .int .i64 pos.1, .int .i64 pos.2.1, .int .i64 pos.2.2] 28) := ⟨_, rfl⟩
    rw [← hw4]
    have HD4 := Lib.hid (show Blk w4 w3.heap.size #[.int .i64 code, .int .i64 pos.1, .int .i64 pos.2.1, .int .i64 pos.2.2] 28 by rw [hw4]; exact Blk.new _ _ _)
    have HK4 := Lib.hid (show Keep (fun _ => False) w3 w4 by rw [hw4]; exact (Keep.refl _ _).alloc _)
    clear hw4
    have HS := Lib.hid (refSame_any A1 A3 toks.length c1 c3 w.heap.size w2.heap.size toks w4 (ownsRow_keep HO1.out ((HK2.out.trans HK3.out).trans HK4.out) (fun _ _ h => h)) (ownsRow_keep HO3.out HK4.out (fun _ _ h => h)) rfl (Nat.le_trans hcnt (by omega)))
    have HD24 := Lib.hid ((HK3.out.trans HK4.out).blk HD2.out (fun h => h))
    have HB4 := Lib.hid (HB2.out.trans ((HK3.out.trans HK4.out).belowB HB2.out.size))
    refine HS.out.mono ?_
    rintro e5 w5 ⟨rfl, hd5⟩
    have HD25 := Lib.hid (hd5.blk HD24.out)
    have HD45 := Lib.hid (hd5.blk HD4.out)
    have HB5 := Lib.hid (HB4.out.trans ((hd5.keep (P := fun _ => False)).belowB HB4.out.size))
    clear hd5
    have aD := HD25.out.all4
    have aE := HD45.out.all4
    have HAW := Lib.hid (awake_any w5 ((HGL.out.below HB5.out (Nat.le_refl _)).mono HB5.out.size))
    go_wp2_with fail
    refine HAW.out.mono ?_
    rintro e6 w6 ⟨rfl, hb6⟩
    go_wp2_with fail
    go_ret
    exact ⟨rfl, HB5.out.trans (hb6.mono HB5.out.size)⟩
end Go.Proofs.YtcdmkmbbliaefaaGreatDoor
