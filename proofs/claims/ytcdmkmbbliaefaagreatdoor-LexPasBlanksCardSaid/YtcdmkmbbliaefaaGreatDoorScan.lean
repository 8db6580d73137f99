/- Package scan: the scanner's block; Rest. -/
import Derived.Test.YtcdmkmbbliaefaaGreatDoorWhile
import Derived.Test.YtcdmkmbbliaefaaGreatDoorNoteR
import Derived.Deep.RegionHeld3
import Derived.Deep.AppendLies
import Derived.Outline
namespace Go.Proofs.YtcdmkmbbliaefaaGreatDoor
open Go.RowKit
set_option linter.unusedVariables false
set_option linter.unusedSimpArgs false

/-- The scanner's block (at the begin of a block of type T). -/
def ScB (w : World) (T bl bc : Nat) (d : Int) (s : ByteArray) (v : Value) (last : Int) : Prop :=
  Blk w bl #[.pointer (some ⟨bc, 0, none⟩), .int .i64 d, .string s, v, .int .i64 last] T
namespace ScB
variable {w w' : World} {T bl bc : Nat} {d : Int} {s : ByteArray} {v : Value} {last : Int}
theorem c0 (h : ScB w T bl bc d s v last) : w.cell? ⟨bl, 0, none⟩ = some (.pointer (some ⟨bc, 0, none⟩)) := Blk.at_ h 0 rfl
theorem c1 (h : ScB w T bl bc d s v last) : w.cell? ⟨bl, 1, none⟩ = some (.int .i64 d) := Blk.at_ h 1 rfl
theorem c2 (h : ScB w T bl bc d s v last) : w.cell? ⟨bl, 2, none⟩ = some (.string s) := Blk.at_ h 2 rfl
theorem c3 (h : ScB w T bl bc d s v last) : w.cell? ⟨bl, 3, none⟩ = some v := Blk.at_ h 3 rfl
theorem c4 (h : ScB w T bl bc d s v last) : w.cell? ⟨bl, 4, none⟩ = some (.int .i64 last) := Blk.at_ h 4 rfl
theorem fr (h : ScB w T bl bc d s v last) (i : Nat) : w.frozen? ⟨bl, i, none⟩ = false := Blk.free h i
end ScB
theorem Keep.cell {P : Nat → Prop} {w w1 : World} (h : Keep P w w1) {a : Addr} {v : Value} (hc : w.cell? a = some v) (hp : ¬ P a.block) : w1.cell? a = some v := by
  have hlt := World.block_lt_of_cell? w a hc
  rw [← hc]; unfold World.cell?; rw [h.block a.block hlt hp]

set_option maxRecDepth 100000 in
set_option maxHeartbeats 1000000 in
theorem rest_any (T bl bc : Nat) (d : Int) (s : ByteArray) (v : Value) (last : Int) (p : Nat) (w : World) (h : ScB w T bl bc d s v last) (hc : CurB w bc s p) (hs : s.size ≤ 140737488351232) (hp : p ≤ s.size) :
    Calls Tryz.prog 32 #[.pointer (some ⟨bl, 0, none⟩)] w fun e w' => e = .returned (.string (s.extract p s.size)) ∧ Keep (fun _ => False) w w' := by
  have h0 := h.c0
  have h2 := h.c2
  have fd0 := posF0
  have b0 : (0 : Int) ≤ (p : Int) := by omega
  have b1 : (p : Int) ≤ (s.size : Int) := by omega
  go_enter Tryz.func32, Tryz.ntmps32
  go_wp2_with fail
  go_region_held3 (fun w' => w'.cell? ⟨bl, 0, none⟩ = some (.pointer (some ⟨bc, 0, none⟩)) ∧ w'.cell? ⟨bl, 2, none⟩ = some (.string s))
    (first | go_keep | (refine ⟨hk.cell ?_ (fun h => h), hk.cell ?_ (fun h => h)⟩ <;> (first | assumption | (simpa using h0) | (simpa using h2))))
    ((go_at_call 17; refine (pos_any bc s p _ (Blk.drewN hc 1)).mono ?_; rintro e w' ⟨rfl, hk⟩))
  go_wp2_with fail
  go_ret
  exact ⟨rfl, ((Keep.refl _ w).drewN 1).trans hk⟩

/-! ### tokens -/
structure TokL where
  kind : Nat
  text : ByteArray
  n : Int
  same : Bool
  pos : Nat × Nat × Nat
def tokC (t : TokL) : List Value := [.int .i64 t.kind, .string t.text, .int .i64 t.n, .bool t.same, .int .i64 t.pos.1, .int .i64 t.pos.2.1, .int .i64 t.pos.2.2]
def toksC (l : List TokL) : List Value := l.flatMap tokC
theorem toksC_snoc (l : List TokL) (t : TokL) : toksC (l ++ [t]) = toksC l ++ tokC t := by simp [toksC]
def OwnToks (w : World) (base : Nat) (v : Value) (l : List TokL) : Prop := w.ownsRow base 38 7 v l.length (toksC l)
theorem info_tok : (Tryz.prog.info? 38).map (fun i => (i.zero, i.size, i.bytes)) = some (some (.agg #[(.int .i64 0), (.string ⟨#[]⟩), (.int .i64 0), (.bool false), (.int .i64 0), (.int .i64 0), (.int .i64 0)]), 7, 64) := by kernel_rfl
theorem OwnToks.form {w : World} {base : Nat} {v : Value} {l : List TokL} (h : OwnToks w base v l) : ∃ A c, v = .slice A l.length c := by
  rcases h.2 with ⟨rfl, h0⟩ | ⟨g, cap, cur, rfl, _⟩
  · exact ⟨none, 0, by rw [h0]⟩
  · exact ⟨_, cap, rfl⟩
/-- What is owned lives on where its own block does. -/
theorem ownsRow_keep {P : Nat → Prop} {w w' : World} {base : Nat} {e : TypeId} {size n : Nat} {v : Value} {xs : List Value} (h : w.ownsRow base e size v n xs) (hk : Keep P w w') (hp : ∀ k, v.ownBlock = some k → ¬ P k) : w'.ownsRow base e size v n xs := by
  obtain ⟨h1, h2⟩ := h
  refine ⟨h1, ?_⟩
  rcases h2 with h2 | ⟨g, cap, cur, rfl, hb, hg, r⟩
  · exact .inl h2
  · exact .inr ⟨g, cap, cur, rfl, hb, (hk.block g (Blk.lt (cs := cur) (t := e) hg) (hp g rfl)).trans hg, r⟩
theorem ownsRow_ne {w : World} {base : Nat} {e : TypeId} {size n : Nat} {v : Value} {xs : List Value} {b : Nat} {cs : Array Value} {t : Nat} (h : w.ownsRow base e size v n xs) (hb : Blk w b cs t) (hne : e ≠ t) : ∀ k, v.ownBlock = some k → k ≠ b := by
  intro k hk
  rcases h.2 with ⟨rfl, _⟩ | ⟨g, cap, cur, rfl, _, hg, _⟩
  · simp [Value.ownBlock] at hk
  · have : g = k := by simpa [Value.ownBlock] using hk
    subst this
    exact Blk.ne (cs := cur) (t := e) hg hb hne
end Go.Proofs.YtcdmkmbbliaefaaGreatDoor
