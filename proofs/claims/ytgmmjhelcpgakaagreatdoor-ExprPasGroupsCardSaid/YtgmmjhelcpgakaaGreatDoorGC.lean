/- Package scan: the scanner's block; Rest. -/
import Derived.Test.YtgmmjhelcpgakaaGreatDoorGA
import Derived.Test.YtgmmjhelcpgakaaGreatDoorGB
import Derived.Deep.RegionHeld3
import Derived.Deep.AppendLies
import Derived.Outline
namespace Go.Proofs.YtgmmjhelcpgakaaGreatDoor
open Go.RowKit
set_option linter.unusedVariables false
set_option linter.unusedSimpArgs false

/-- The scanner's block (at the begin of a block of type T). -/
def ScB (w : World) (T bl bc : Nat) (d : Int) (s : ByteArray) (v : Value) (last : Int) : Prop :=
  Blk w bl #[.pointer (some ⟨bc, 0, none⟩), .int .i64 d, .string s, v, .int .i64 last] T
namespace ScB
variable {w w' : World} {T bl bc : Nat} {d : Int} {s : ByteArray} {v : Value} {last : Int}
theorem c0 (h : ScB w T bl bc d s v last) : w.cell? ⟨bl, 0, none⟩ = some (.pointer (some ⟨bc, 0, none⟩)) := Blk.at_ h 0 rfl
theorem c1 (h : ScB w T bl bc d s v last) : w.cell? ⟨bl, 1, none⟩ = some (.int .i64 d) := Blk.at_ h 1 rfl
theorem c2 (h : ScB w T bl bc d s v last) : w.cell? ⟨bl, 2, none⟩ = some (.string s) := Blk.at_ h 2 rfl
theorem c3 (h : ScB w T bl bc d s v last) : w.cell? ⟨bl, 3, none⟩ = some v := Blk.at_ h 3 rfl
theorem c4 (h : ScB w T bl bc d s v last) : w.cell? ⟨bl, 4, none⟩ = some (.int .i64 last) := Blk.at_ h 4 rfl
theorem fr (h : ScB w T bl bc d s v last) (i : Nat) : w.frozen? ⟨bl, i, none⟩ = false := Blk.free h i
end ScB
theorem Keep.cell {P : Nat → Prop} {w w1 : World} (h : Keep P w w1) {a : Addr} {v : Value} (hc : w.cell? a = some v) (hp : ¬ P a.block) : w1.cell? a = some v := by
  have hlt := World.block_lt_of_cell? w a hc
  rw [← hc]; unfold World.cell?; rw [h.block a.block hlt hp]

set_option maxRecDepth 100000 in
set_option maxHeartbeats 1000000 in
theorem rest_any (T bl bc : Nat) (d : Int) (s : ByteArray) (v : Value) (last : Int) (p : Nat) (w : World) (h : ScB w T bl bc d s v last) (hc : CurB w bc s p) (hs : s.size ≤ 140737488351232) (hp : p ≤ s.size) :
    Calls Tryz.prog 80 #[.pointer (some ⟨bl, 0, none⟩)] w fun e w' => e = .returned (.string (s.extract p s.size)) ∧ Keep (fun _ => False) w w' := by
  have h0 := h.c0
  have h2 := h.c2
  have fd0 := posF0
  have b0 : (0 : Int) ≤ (p : Int) := by omega
  have b1 : (p : Int) ≤ (s.size : Int) := by omega
  go_enter Tryz.func80, Tryz.ntmps80
  go_wp2_with fail
  go_region_held3 (fun w' => w'.cell? ⟨bl, 0, none⟩ = some (.pointer (some ⟨bc, 0, none⟩)) ∧ w'.cell? ⟨bl, 2, none⟩ = some (.string s))
    (first | go_keep | (refine ⟨hk.cell ?_ (fun h => h), hk.cell ?_ (fun h => h)⟩ <;> (first | assumption | (simpa using h0) | (simpa using h2))))
    ((go_at_call 42; refine (pos_any bc s p _ (Blk.drewN hc 1)).mono ?_; rintro e w' ⟨rfl, hk⟩))
  go_wp2_with fail
  go_ret
  exact ⟨rfl, ((Keep.refl _ w).drewN 1).trans hk⟩

/-! ### tokens -/
structure TokL where
  kind : Nat
  text : ByteArray
  n : Int
  same : Bool
  pos : Nat × Nat × Nat
def tokC (t : TokL) : List Value := [.int .i64 t.kind, .string t.text, .int .i64 t.n, .bool t.same, .int .i64 t.pos.1, .int .i64 t.pos.2.1, .int .i64 t.pos.2.2]
def toksC (l : List TokL) : List Value := l.flatMap tokC
theorem toksC_snoc (l : List TokL) (t : TokL) : toksC (l ++ [t]) = toksC l ++ tokC t := by simp [toksC]
def OwnToks (w : World) (base : Nat) (v : Value) (l : List TokL) : Prop := w.ownsRow base 50 7 v l.length (toksC l)
theorem info_tok : (Tryz.prog.info? 50).map (fun i => (i.zero, i.size, i.bytes)) = some (some (.agg #[(.int .i64 0), (.string ⟨#[]⟩), (.int .i64 0), (.bool false), (.int .i64 0), (.int .i64 0), (.int .i64 0)]), 7, 64) := by kernel_rfl
theorem OwnToks.form {w : World} {base : Nat} {v : Value} {l : List TokL} (h : OwnToks w base v l) : ∃ A c, v = .slice A l.length c := by
  rcases h.2 with ⟨rfl, h0⟩ | ⟨g, cap, cur, rfl, _⟩
  · exact ⟨none, 0, by rw [h0]⟩
  · exact ⟨_, cap, rfl⟩
/-- What is owned lives on where its own block does. -/
theorem ownsRow_keep {P : Nat → Prop} {w w' : World} {base : Nat} {e : TypeId} {size n : Nat} {v : Value} {xs : List Value} (h : w.ownsRow base e size v n xs) (hk : Keep P w w') (hp : ∀ k, v.ownBlock = some k → ¬ P k) : w'.ownsRow base e size v n xs := by
  obtain ⟨h1, h2⟩ := h
  refine ⟨h1, ?_⟩
  rcases h2 with h2 | ⟨g, cap, cur, rfl, hb, hg, r⟩
  · exact .inl h2
  · exact .inr ⟨g, cap, cur, rfl, hb, (hk.block g (Blk.lt (cs := cur) (t := e) hg) (hp g rfl)).trans hg, r⟩
theorem ownsRow_ne {w : World} {base : Nat} {e : TypeId} {size n : Nat} {v : Value} {xs : List Value} {b : Nat} {cs : Array Value} {t : Nat} (h : w.ownsRow base e size v n xs) (hb : Blk w b cs t) (hne : e ≠ t) : ∀ k, v.ownBlock = some k → k ≠ b := by
  intro k hk
  rcases h.2 with ⟨rfl, _⟩ | ⟨g, cap, cur, rfl, _, hg, _⟩
  · simp [Value.ownBlock] at hk
  · have : g = k := by simpa [Value.ownBlock] using hk
    subst this
    exact Blk.ne (cs := cur) (t := e) hg hb hne
end Go.Proofs.YtgmmjhelcpgakaaGreatDoor
/- Package scan: Add. -/
namespace Go.Proofs.YtgmmjhelcpgakaaGreatDoor
open Go.RowKit
set_option linter.unusedVariables false
set_option linter.unusedSimpArgs false

/-- The scanner as it stands: its block, its cursor's, its tokens' row. -/
structure Sc (w : World) (base T bl bc : Nat) (d : Int) (s : ByteArray) (p : Nat) (v : Value) (l : List TokL) (last : Int) : Prop where
  b : ScB w T bl bc d s v last
  c : CurB w bc s p
  o : OwnToks w base v l
  ne : bl ≠ bc
  hbl : base ≤ bl
  hbc : base ≤ bc
  T1 : T ≠ 138
  T2 : T ≠ 50
  hs : s.size ≤ 140737488351232
  hp : p ≤ s.size
  hl : l.length ≤ 1000000
  hlast : -1 ≤ last ∧ last ≤ s.size
theorem Sc.keep {P : Nat → Prop} {w w' : World} {base T bl bc : Nat} {d : Int} {s : ByteArray} {p : Nat} {v : Value} {l : List TokL} {last : Int} (h : Sc w base T bl bc d s p v l last) (hk : Keep P w w') (hP : ∀ k, P k → k < base) : Sc w' base T bl bc d s p v l last :=
  ⟨hk.blk h.b (fun h' => by have := hP _ h'; have := h.hbl; omega), hk.blk h.c (fun h' => by have := hP _ h'; have := h.hbc; omega), ownsRow_keep h.o hk (fun k hk' hp => by have := hP _ hp; have := (World.ownsRow.lt (show World.ownsRow _ _ _ _ _ _ _ from h.o) k hk').1; omega), h.ne, h.hbl, h.hbc, h.T1, h.T2, h.hs, h.hp, h.hl, h.hlast⟩

set_option maxRecDepth 100000 in
set_option maxHeartbeats 4000000 in
theorem add_any (base T bl bc : Nat) (d : Int) (s : ByteArray) (p : Nat) (v : Value) (l : List TokL) (last : Int) (w : World) (h : Sc w base T bl bc d s p v l last) (hl : l.length ≤ 900000)
    (kind : Nat) (text : ByteArray) (n : Int) (sm : Bool) (z0 z1 z2 : Int) (pa pl pc : Nat) :
    Calls Tryz.prog 44 #[.pointer (some ⟨bl, 0, none⟩), .agg #[.int .i64 kind, .string text, .int .i64 n, .bool sm, .int .i64 z0, .int .i64 z1, .int .i64 z2], .agg #[.int .i64 pa, .int .i64 pl, .int .i64 pc]] w fun e w' =>
      e = .returned (.tuple #[]) ∧ (∃ v', Sc w' base T bl bc d s p v' (l ++ [⟨kind, text, n, last == (pl : Int), (pa, pl, pc)⟩]) (lineAt s p)) ∧ Below base w w' := by
  have hb0 := h.b
  have hc0 := h.c
  have ho := h.o
  have hblt := Blk.lt hb0
  have hclt := Blk.lt hc0
  have hne1 := ownsRow_ne ho hb0 (Ne.symm h.T2)
  have hne2 := ownsRow_ne ho hc0 (by decide)
  have hbase : base ≤ w.heap.size := by have := h.hbl; omega
  obtain ⟨vA, vc, rfl⟩ := OwnToks.form ho
  have b0 := hb0.c0
  have b3 := hb0.c3
  have b4 := hb0.c4
  have f3 := hb0.fr 3
  have f4 := hb0.fr 4
  have hu38 := Tryz.underlying50
  have hu26 := Tryz.underlying28
  obtain ⟨i0, hi0, hz0, hz1, hz2⟩ := info_parts info_tok
  go_enter Tryz.func44, Tryz.ntmps44
  go_wp2_with fail
  go_region
  go_wp2_with fail
  have nb0 : bl ≠ w.heap.size := by omega
  have nb1 : bl ≠ w.heap.size + 1 := by omega
  have nb2 : bl ≠ w.heap.size + 2 := by omega
  have hq3 : ∀ X Y Z : Obj, ((((w.alloc X).alloc Y).alloc Z).drew.drew).cell? ⟨bl, 3, none⟩ = some (.slice vA l.length vc) := fun X Y Z => Keep.cell (P := fun _ => False) (((((Keep.refl _ w).alloc _).alloc _).alloc _).drew.drew) b3 (fun h => h)
  have hlt1 : ∀ k, (Value.slice vA l.length vc).ownBlock = some k → k < w.heap.size := fun k hk => (World.ownsRow.lt (show World.ownsRow _ _ _ _ _ _ _ from ho) k hk).2
  go_region_law
    ((refine step_append_lies _ (by rfl) _ _ _ (by rfl) base 50 i0 _ 7 64 Tryz.underlying45 hi0 hz0 hz1 hz2 rfl (by omega) (.slice vA l.length vc) l.length (toksC l) (by rfl) (by exact (((ho.alloc _).alloc _).alloc _)) ⟨w.heap.size + 2, 0, none⟩ 1 1 [Value.int .i64 kind, Value.string text, Value.int .i64 n, Value.bool (last == (pl : Int)), Value.int .i64 pa, Value.int .i64 pl, Value.int .i64 pc] (by rfl) (by rfl) (World.news_of_block (cs := #[Value.int .i64 kind, Value.string text, Value.int .i64 n, Value.bool (last == (pl : Int)), Value.int .i64 pa, Value.int .i64 pl, Value.int .i64 pc]) (t := 50) (fr := (0, 0)) (by exact Blk.new3 _ _ _ _)) (by simp [Value.oneCell']) (by omega) (by unfold maxLen; omega) (by omega) (by simp; omega) (w.heap.size + 3) (by simp) ?_; intro gg cap w1 hown1 hgrow hat hlt; have hb1 : ScB w1 T bl bc d s (.slice vA l.length vc) last := (hgrow.block bl (by simp; omega) (fun e => hne1 _ e.symm rfl)).trans (Keep.blk (P := fun _ => False) (((((Keep.refl _ w).alloc _).alloc _).alloc _).drew.drew) hb0 (fun h => h)); have hbt : Blk w1 w.heap.size #[Value.int .i64 kind, Value.string text, Value.int .i64 n, Value.bool (last == (pl : Int)), Value.int .i64 pa, Value.int .i64 pl, Value.int .i64 pc] 50 := (hgrow.block w.heap.size (by simp; omega) (fun e => absurd (hlt1 _ e.symm) (Nat.lt_irrefl _))).trans ((((Blk.new w #[Value.int .i64 kind, Value.string text, Value.int .i64 n, Value.bool (last == (pl : Int)), Value.int .i64 pa, Value.int .i64 pl, Value.int .i64 pc] 50).alloc _).alloc _)); have hf1 := hb1.fr 3; have hc1 := hb1.c3; have k0 := hbt.at_ 0 (v := Value.int .i64 kind) rfl; have k1 := hbt.at_ 1 (v := Value.string text) rfl; have k2 := hbt.at_ 2 (v := Value.int .i64 n) rfl; have k3 := hbt.at_ 3 (v := Value.bool (last == (pl : Int))) rfl; have k4 := hbt.at_ 4 (v := Value.int .i64 pa) rfl; have k5 := hbt.at_ 5 (v := Value.int .i64 pl) rfl; have k6 := hbt.at_ 6 (v := Value.int .i64 pc) rfl))
  all_goals
    have hd3 : decide ((w.heap.size : Int) < (w.heap.size : Int)) = false := by simp
    have hcw : CurB w1 bc s p := (hgrow.block bc (by simp; omega) (fun e => hne2 _ e.symm rfl)).trans (Keep.blk (P := fun _ => False) (((((Keep.refl _ w).alloc _).alloc _).alloc _).drew.drew) hc0 (fun h => h))
    have hcs : CurB (w1.setCell ⟨bl, 3, none⟩ (.slice (some ⟨gg, 0, none⟩) (l.length + 1) cap)) bc s p := Blk.far hcw (Ne.symm h.ne) _
    have hbs : ScB (w1.setCell ⟨bl, 3, none⟩ (.slice (some ⟨gg, 0, none⟩) (l.length + 1) cap)) T bl bc d s (.slice (some ⟨gg, 0, none⟩) (l.length + 1) cap) last := Blk.set hb1 3 _
    have hgg : gg ≠ bl := ownsRow_ne hown1 hb1 (Ne.symm h.T2) gg rfl
    have hko : Keep (fun k => base ≤ k) w w1 := ((((((Keep.refl _ w).alloc _).alloc _).alloc _).drew.drew)).grown hgrow (fun k hk _ => (World.ownsRow.lt (show World.ownsRow _ _ _ _ _ _ _ from ho) k hk).1)
    have hc0s := hcs
    have b0' := hbs.c0
    have b4' := hbs.c4
    have f4' := hbs.fr 4
    clear b0 b3 b4 f3 f4 hc1 hf1 k0 k1 k2 k3 k4 k5 k6 hq3
    have fd1 := posF1
    go_wp2_with fail
    refine (pos_any bc s p _ hcs).mono ?_
    rintro e w2 ⟨rfl, hk2⟩
    have hb2 := hk2.blk hbs (fun h => h)
    have hb2' : ScB w2 T bl bc d s (.slice (some ⟨gg, 0, none⟩) (l.length + 1) cap) last := hb2
    have c4'' := hb2'.c4
    have f4'' := hb2'.fr 4
    go_wp2_with fail
    go_end0
    have hw : base ≤ w.heap.size := hbase
    have hkf : Keep (fun k => base ≤ k) w _ := ((hko.setCell (p := ⟨bl, 3, none⟩) (fun _ => h.hbl) _).trans (hk2.mono (fun _ _ h => h.elim))).setCell (p := ⟨bl, 4, none⟩) (fun _ => h.hbl) (.int .i64 (lineAt s p))
    have hor : OwnToks (w2.setCell ⟨bl, 4, none⟩ (.int .i64 (lineAt s p))) base (.slice (some ⟨gg, 0, none⟩) (l.length + 1) cap) (l ++ [⟨kind, text, n, last == (pl : Int), (pa, pl, pc)⟩]) := by
      have h1 := ownsRow_setCell_other hown1 (a := ⟨bl, 3, none⟩) (by simpa [Value.ownBlock] using hgg) (.slice (some ⟨gg, 0, none⟩) (l.length + 1) cap)
      have h2 := ownsRow_keep h1 hk2 (fun _ _ h => h)
      have h3 := ownsRow_setCell_other h2 (a := ⟨bl, 4, none⟩) (by simpa [Value.ownBlock] using hgg) (.int .i64 (lineAt s p))
      unfold OwnToks
      rw [toksC_snoc]
      simpa [tokC] using h3
    refine ⟨rfl, ⟨_, ⟨Blk.set hb2' 4 (.int .i64 (lineAt s p)), (hk2.blk hcs (fun h => h)).far (Ne.symm h.ne) _, hor, h.ne, h.hbl, h.hbc, h.T1, h.T2, h.hs, h.hp, by simp; omega, ?_⟩⟩, hkf.below hw (fun k hk => hk)⟩
    have := lineAt_le s p
    have := h.hp
    omega
end Go.Proofs.YtgmmjhelcpgakaaGreatDoor
