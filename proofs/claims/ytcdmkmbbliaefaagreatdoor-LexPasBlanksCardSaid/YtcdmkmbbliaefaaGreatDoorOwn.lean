/- Rows of bytes that a call makes itself. -/
import Derived.Test.YtcdmkmbbliaefaaGreatDoorBase
import Derived.OwnWalk
import Derived.Laws.BytesArg
namespace Go.Proofs.YtcdmkmbbliaefaaGreatDoor
open Go.RowKit
set_option linter.unusedVariables false
set_option linter.unusedSimpArgs false

def u8v (c : UInt8) : Value := .int .u8 (c.toNat : Int)
def OwnBytes (w : World) (base : Nat) (v : Value) (l : Bs) : Prop := w.ownsRow base 5 1 v l.length (l.map u8v)
theorem info_u8 : (Tryz.prog.info? 5).map (fun i => (i.zero, i.size, i.bytes)) = some (some (.int .u8 0), 1, 1) := by kernel_rfl
theorem ownsRow_drewN {w : World} {base : Nat} {e : TypeId} {size n : Nat} {v : Value} {xs : List Value} (h : w.ownsRow base e size v n xs) (q : Nat) : (w.drewN q).ownsRow base e size v n xs := h
theorem OwnBytes.nil (w : World) (base : Nat) : OwnBytes w base (.slice none 0 0) [] := World.ownsRow_nil _ _ _ _
theorem OwnBytes.drewN {w : World} {base : Nat} {v : Value} {l : Bs} (h : OwnBytes w base v l) (q : Nat) : OwnBytes (w.drewN q) base v l := h
theorem OwnBytes.alloc {w : World} {base : Nat} {v : Value} {l : Bs} (h : OwnBytes w base v l) (o : Obj) : OwnBytes (w.alloc o) base v l := World.ownsRow.alloc h o
theorem OwnBytes.form {w : World} {base : Nat} {v : Value} {l : Bs} (h : OwnBytes w base v l) : ∃ A c, v = .slice A l.length c := by
  rcases h.2 with ⟨rfl, h0⟩ | ⟨g, cap, cur, rfl, _⟩
  · exact ⟨none, 0, by rw [h0]⟩
  · exact ⟨_, cap, rfl⟩
theorem nums_bytes (l : Bs) : strOfNums (l.map fun x => (x.toNat : Int)) = ⟨l.toArray⟩ := by
  unfold strOfNums; simp [Function.comp_def]
/-- The row as a string. -/
theorem OwnBytes.str {w : World} {base : Nat} {v : Value} {l : Bs} (h : OwnBytes w base v l) (q : Nat) :
    (convert 34 9 v).run Tryz.prog (w.drewN q) = .ok (.string ⟨l.toArray⟩) (w.drewN q) := by
  have hq := h.drewN q
  have hl : (l.map u8v).length = l.length := by simp
  rcases hq.2 with ⟨rfl, h0⟩ | ⟨g, cap, cur, rfl, hr⟩
  · have : l = [] := List.eq_nil_of_length_eq_zero h0
    subst this
    exact run_convert_bytes_nil _ _ _ Tryz.underlying34 Tryz.underlying5 _ _ _ Tryz.underlying9
  · rw [← nums_bytes]
    refine run_convert_bytes_arg _ _ _ Tryz.underlying34 Tryz.underlying5 g 0 l.length cap (l.map fun x => (x.toNat : Int)) (by simp) (fun i hi => ?_) _ Tryz.underlying9
    have hc := World.ownsRow.cells hq (g := g) rfl i (u8v l[i]) (by simp [List.getElem?_eq_getElem hi])
    have ha : (⟨g, 0, none⟩ : Addr).add i = ⟨g, 0 + i, none⟩ := by unfold Addr.add; split <;> simp_all
    rw [ha] at hc
    rw [hc]
    simp [u8v, List.getD_eq_getElem?_getD, List.getElem?_eq_getElem hi]
theorem OwnBytes.str0 {w : World} {base : Nat} {v : Value} {l : Bs} (h : OwnBytes w base v l) :
    (convert 34 9 v).run Tryz.prog w = .ok (.string ⟨l.toArray⟩) w := h.str 0
theorem OwnBytes.str2 {w : World} {base : Nat} {v : Value} {l : Bs} (h : OwnBytes w base v l) (q r : Nat) :
    (convert 34 9 v).run Tryz.prog ((w.drewN q).drewN r) = .ok (.string ⟨l.toArray⟩) ((w.drewN q).drewN r) := (h.drewN q).str r
/-- What an append leaves, in these words. -/
theorem OwnBytes.snoc {w : World} {base : Nat} {v : Value} {l : Bs} {c : UInt8} (h : w.ownsRow base 5 1 v (l.length + 1) (l.map u8v ++ [.int .u8 (c.toNat : Int)])) : OwnBytes w base v (l ++ [c]) := by
  unfold OwnBytes; simpa [u8v] using h
theorem OwnBytes.keep {P : Nat → Prop} {w w' : World} {base : Nat} {v : Value} {l : Bs} (h : OwnBytes w base v l) (hk : Keep P w w') (hp : ∀ k, P k → k < base) : OwnBytes w' base v l := by
  obtain ⟨h1, h2⟩ := h
  refine ⟨h1, ?_⟩
  rcases h2 with h2 | ⟨g, cap, cur, rfl, hb, hg, r⟩
  · exact .inl h2
  · refine .inr ⟨g, cap, cur, rfl, hb, ?_, r⟩
    rw [hk.block g (Blk.lt (cs := cur) (t := 5) hg) (fun hpg => by have := hp g hpg; omega)]; exact hg
end Go.Proofs.YtcdmkmbbliaefaaGreatDoor
