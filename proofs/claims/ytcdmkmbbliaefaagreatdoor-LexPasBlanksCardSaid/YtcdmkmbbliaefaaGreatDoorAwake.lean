/- The law package's awake(): the document's example holds. -/
import Derived.Test.YtcdmkmbbliaefaaGreatDoorTokRow
namespace Go.Proofs.YtcdmkmbbliaefaaGreatDoor
open Go.RowKit
set_option linter.unusedVariables false
set_option linter.unusedSimpArgs false

def exText : ByteArray := ⟨#[88, 58, 61, 39, 97, 39, 123, 99, 125]⟩
def exToks : List TokL := [⟨1, ⟨#[120]⟩, 0, false, (0, 0, 0)⟩, ⟨5, ⟨#[58, 61]⟩, 0, true, (1, 0, 1)⟩, ⟨4, ⟨#[]⟩, 97, true, (3, 0, 3)⟩, ⟨6, ⟨#[99]⟩, 0, true, (6, 0, 6)⟩, ⟨0, ⟨#[]⟩, 0, true, (9, 0, 9)⟩]
theorem ex_lex : lexAll exText = ⟨exToks, 0, (0, 0, 0)⟩ := by kernel_rfl
set_option maxRecDepth 100000 in
set_option maxHeartbeats 2000000 in
theorem awake_any (w : World) (hg : Glob w.heap.size w) :
    Calls Tryz.prog 8 #[] w fun e w' => e = .returned (.bool true) ∧ Below w.heap.size w w' := by
  have hA := all_any exText w (by decide) hg
  rw [ex_lex] at hA
  unfold AllPost at hA
  have HA := Lib.hid hA
  clear hA hg
  have hu28 := Tryz.underlying28
  have hu26 := Tryz.underlying26
  have hu38 := Tryz.underlying38
  go_enter Tryz.func8, Tryz.ntmps8
  go_wp2_with fail
  refine HA.out.mono ?_
  rintro e1 w1 ⟨v, rfl, ho, hb⟩
  unfold diagV
  obtain ⟨g, c, rfl, hbg, hgl⟩ := ho.shape (by decide)
  have hK : Keep (fun _ => False) w1 (w1.alloc (.cells #[.int .i64 0, .int .i64 0, .int .i64 0, .int .i64 0] 28)) := (Keep.refl _ w1).alloc _
  have ho2 : OwnToks (w1.alloc (.cells #[.int .i64 0, .int .i64 0, .int .i64 0, .int .i64 0] 28)) w.heap.size (.slice (some ⟨g, 0, none⟩) exToks.length c) exToks := ownsRow_keep ho hK (fun _ _ h => h)
  have k01 := ho2.cell 0 _ rfl 1 (by decide)
  have k03 := ho2.cell 0 _ rfl 3 (by decide)
  have k11 := ho2.cell 1 _ rfl 1 (by decide)
  have k22 := ho2.cell 2 _ rfl 2 (by decide)
  have k24 := ho2.cell 2 _ rfl 4 (by decide)
  have k31 := ho2.cell 3 _ rfl 1 (by decide)
  have k43 := ho2.cell 4 _ rfl 3 (by decide)
  simp only [tokC, List.getElem?_cons_succ, List.getElem?_cons_zero, Nat.reduceMul, Nat.reduceAdd] at k01 k03 k11 k22 k24 k31 k43
  have hgn : g ≠ w1.heap.size := by omega
  have HB := Lib.hid hb
  rw [show exToks.length = 5 from rfl]
  clear ho ho2 hb hK
  go_wp2_with fail
  go_ret
  exact ⟨rfl, HB.out.alloc HB.out.size _⟩
end Go.Proofs.YtcdmkmbbliaefaaGreatDoor
