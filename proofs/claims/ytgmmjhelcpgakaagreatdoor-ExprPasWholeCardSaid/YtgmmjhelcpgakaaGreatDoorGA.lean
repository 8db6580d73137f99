/- What the walks of this seat share: blocks known whole, worlds that differ in some blocks alone, the library's variables, places in a text. -/
import Derived.Test.YtgmmjhelcpgakaaGreatDoorProg
import Derived.WalkKit
import Derived.Below
import Derived.Deep.QuietTactic
import Derived.BigQuiet
import Derived.Deep.LoopGhost
import Derived.Deep.DeepCutAuto
import Derived.Lib.Hide
import Derived.Lib.LaidTab
import Derived.Shelf.Strings.SplitShaped
import Derived.Shelf.Strconv.Itoa4
import Derived.Test.YtgmmjhelcpgakaaGreatDoorShelf
import Derived.Shelf.Small.Strs
import Derived.Shelf.Lay
import Derived.OwnWalk
import Derived.Laws.BytesArg
set_option linter.unusedVariables false
set_option linter.unusedSimpArgs false
namespace Go.Proofs.YtgmmjhelcpgakaaGreatDoor
open Go.RowKit

/-- A block known whole. -/
def Blk (w : World) (b : Nat) (cs : Array Value) (t : Nat) : Prop := w.heap[b]? = some (.cells cs t (0, 0))
namespace Blk
variable {w w' : World} {b : Nat} {cs : Array Value} {t : Nat}
theorem cell (h : Blk w b cs t) (i : Nat) : w.cell? ⟨b, i, none⟩ = cs[i]? := by
  unfold Blk at h; simp [World.cell?, h]
theorem at_ (h : Blk w b cs t) (i : Nat) {v : Value} (hv : cs[i]? = some v) : w.cell? ⟨b, i, none⟩ = some v := (h.cell i).trans hv
theorem free (h : Blk w b cs t) (i : Nat) : w.frozen? ⟨b, i, none⟩ = false := by
  unfold Blk at h; simp [World.frozen?, h]
theorem lt (h : Blk w b cs t) : b < w.heap.size := by
  rcases Nat.lt_or_ge b w.heap.size with h' | h'
  · exact h'
  · unfold Blk at h; simp [Array.getElem?_eq_none h'] at h
theorem set (h : Blk w b cs t) (i : Nat) (u : Value) : Blk (w.setCell ⟨b, i, none⟩ u) b (cs.setIfInBounds i u) t := by
  unfold Blk at *; simp [World.setCell, Array.getElem?_modify, h]
theorem far (h : Blk w b cs t) {p : Addr} (hp : b ≠ p.block) (u : Value) : Blk (w.setCell p u) b cs t := (Below.heap_setCell w p u b hp).trans h
theorem alloc (h : Blk w b cs t) (o : Obj) : Blk (w.alloc o) b cs t := (Below.heap_alloc w o b h.lt).trans h
theorem new (w : World) (cs : Array Value) (t : Nat) : Blk (w.alloc (.cells cs t (0, 0))) w.heap.size cs t := by
  show (w.heap.push _)[w.heap.size]? = _
  simp
theorem drewN (h : Blk w b cs t) (n : Nat) : Blk (w.drewN n) b cs t := by
  unfold Blk at *; rw [← h]; rfl
theorem ne {b' : Nat} {cs' : Array Value} {t' : Nat} (h : Blk w b cs t) (h' : Blk w b' cs' t') (hne : t ≠ t') : b ≠ b' := by
  rintro rfl
  unfold Blk at *
  rw [h] at h'
  injection h' with h'
  injection h' with _ ht
  exact hne ht
theorem new0 (w : World) (q : Nat) (v : Value) (t : Nat) : ((w.drewN q).alloc (.cells #[v] t (0, 0))).cell? ⟨w.heap.size, 0, none⟩ = some v := (new (w.drewN q) #[v] t).at_ 0 rfl
theorem new3 (w : World) (A B C : Obj) : (((w.alloc A).alloc B).alloc C).heap[w.heap.size + 2]? = some C := by
  show (((w.heap.push A).push B).push C)[w.heap.size + 2]? = _
  rw [Array.getElem?_push, if_pos (by simp)]
theorem new2 (w : World) (A B : Obj) : ((w.alloc A).alloc B).heap[w.heap.size + 1]? = some B := by
  show ((w.heap.push A).push B)[w.heap.size + 1]? = _
  rw [Array.getElem?_push, if_pos (by simp)]
end Blk

/-- w' is w but for the blocks of P, and new ones. -/
structure Keep (P : Nat → Prop) (w w' : World) : Prop where
  os : w'.os = w.os
  tape : w'.tape = w.tape
  output : w'.output = w.output
  size : w.heap.size ≤ w'.heap.size
  block : ∀ k, k < w.heap.size → ¬ P k → w'.heap[k]? = w.heap[k]?
namespace Keep
variable {P Q : Nat → Prop} {w w1 w2 : World}
theorem refl (P : Nat → Prop) (w : World) : Keep P w w := ⟨rfl, rfl, rfl, Nat.le_refl _, fun _ _ _ => rfl⟩
theorem trans (h : Keep P w w1) (k : Keep P w1 w2) : Keep P w w2 :=
  ⟨k.os.trans h.os, k.tape.trans h.tape, k.output.trans h.output, Nat.le_trans h.size k.size, fun i hi hp => (k.block i (Nat.lt_of_lt_of_le hi h.size) hp).trans (h.block i hi hp)⟩
theorem mono (h : Keep P w w1) (hq : ∀ k, k < w.heap.size → P k → Q k) : Keep Q w w1 := ⟨h.os, h.tape, h.output, h.size, fun i hi hp => h.block i hi fun hpi => hp (hq i hi hpi)⟩
theorem drewN (h : Keep P w w1) (n : Nat) : Keep P w (w1.drewN n) := h.trans ⟨rfl, rfl, rfl, Nat.le_refl _, fun _ _ _ => rfl⟩
theorem drew (h : Keep P w w1) : Keep P w w1.drew := h.trans ⟨rfl, rfl, rfl, Nat.le_refl _, fun _ _ _ => rfl⟩
theorem alloc (h : Keep P w w1) (o : Obj) : Keep P w (w1.alloc o) := h.trans ⟨rfl, rfl, rfl, by simp, fun k hk _ => Below.heap_alloc _ _ _ hk⟩
theorem setCell (h : Keep P w w1) {p : Addr} (hp : p.block < w.heap.size → P p.block) (u : Value) : Keep P w (w1.setCell p u) :=
  ⟨h.os, h.tape, h.output, by simpa [World.setCell] using h.size, fun k hk hn => (Below.heap_setCell w1 p u k (fun e => hn (by subst e; exact hp hk))).trans (h.block k hk hn)⟩
theorem set1 {b : Nat} (h : Keep (· = b) w w1) (i : Nat) (u : Value) : Keep (· = b) w (w1.setCell ⟨b, i, none⟩ u) := h.setCell (fun _ => rfl) u
theorem of_below (h : Below w.heap.size w w1) : Keep P w w1 := ⟨h.os, h.tape, h.output, h.size, fun k hk _ => h.block k hk⟩
theorem below {B : Nat} (h : Keep P w w1) (hB : B ≤ w.heap.size) (hP : ∀ k, P k → B ≤ k) : Below B w w1 := ⟨h.os, h.tape, h.output, h.size, fun k hk => h.block k (by omega) fun hp => by have := hP k hp; omega⟩
theorem of_below' {B : Nat} (h : Below B w w1) : Keep (B ≤ ·) w w1 := ⟨h.os, h.tape, h.output, h.size, fun k hk hp => h.block k (by omega)⟩
theorem grown {row : Option Nat} (h : Keep P w w1) (hg : w1.grownBy w2 row) (hr : ∀ k, row = some k → k < w.heap.size → P k) : Keep P w w2 :=
  ⟨hg.os.trans h.os, hg.tape.trans h.tape, hg.output.trans h.output, Nat.le_trans h.size hg.size, fun k hk hp => (hg.block k (Nat.lt_of_lt_of_le hk h.size) (fun e => hp (hr k e.symm hk))).trans (h.block k hk hp)⟩
theorem blk (h : Keep P w w1) {b : Nat} {cs : Array Value} {t : Nat} (hb : Blk w b cs t) (hp : ¬ P b) : Blk w1 b cs t := (h.block b hb.lt hp).trans hb
end Keep

/-- A quiet call, behind a region that has drawn. -/
theorem quiet_add {P : Program} {f : FuncId} {args : Array Value} {w : World} {a n : Nat} {v : Value}
    (h : Calls P f args (w.drewN (a + n)) fun e w' => e = .returned v ∧ ∃ m, w' = (w.drewN (a + n)).drewN m) :
    Calls P f args (w.drewN (a + n)) fun e w'' => e = .returned v ∧ ∃ m, w'' = w.drewN (a + m) :=
  h.mono fun _ _ ⟨he, m, hm⟩ => ⟨he, n + m, by rw [hm, World.drewN_drewN, Nat.add_assoc]⟩
theorem quiet_add_same {P : Program} {f : FuncId} {args : Array Value} {w : World} {a n : Nat} {v : Value}
    (h : Calls P f args (w.drewN (a + n)) fun e w' => e = .returned v ∧ w' = w.drewN (a + n)) :
    Calls P f args (w.drewN (a + n)) fun e w'' => e = .returned v ∧ ∃ m, w'' = w.drewN (a + m) :=
  h.mono fun _ _ ⟨he, hm⟩ => ⟨he, n, hm⟩
/-- A world's own bytes are as they were; orders may have been drawn. -/
def Drawn (w w' : World) : Prop := ∃ n, w' = w.drewN n
theorem Drawn.refl (w : World) : Drawn w w := ⟨0, rfl⟩
theorem Drawn.n (w : World) (n : Nat) : Drawn w (w.drewN n) := ⟨n, rfl⟩
theorem Drawn.nn (w : World) (m n : Nat) : Drawn w ((w.drewN m).drewN n) := ⟨m + n, World.drewN_drewN ..⟩
theorem Drawn.keep {P : Nat → Prop} {w w' : World} (h : Drawn w w') : Keep P w w' := by
  obtain ⟨n, rfl⟩ := h; exact (Keep.refl P w).drewN n
theorem Drawn.blk {w w' : World} (h : Drawn w w') {b : Nat} {cs : Array Value} {t : Nat} (hb : Blk w b cs t) : Blk w' b cs t := by
  obtain ⟨n, rfl⟩ := h; exact hb.drewN n

/-- The library's variables, as they are laid; their blocks lie below base. -/
structure Glob (base : Nat) (w : World) : Prop where
  space : Lib.TabIs Tryz.prog w "strings.asciiSpace" .u8 Lib.asciiSpaceTab
  pow : Lib.TabIs Tryz.prog w "internal/strconv.uint64pow10" .u64 Lib.pow10Tab
  syn : ∃ ev, w.cell? ⟨3, 0, none⟩ = some ev ∧ (ev = .nilIface ∨ ∃ te pe, ev = .iface te pe)
  rng : ∃ ev, w.cell? ⟨4, 0, none⟩ = some ev ∧ (ev = .nilIface ∨ ∃ te pe, ev = .iface te pe)
  b1 : 5 < base
  b2 : 1 < base
  b3 : 3 < base
  b4 : 4 < base
theorem globNamed1 : Tryz.prog.globalNamed "strings.asciiSpace" = some 5 := by kernel_rfl
theorem globNamed2 : Tryz.prog.globalNamed "internal/strconv.uint64pow10" = some 1 := by kernel_rfl
theorem tabIs_keep {w w' : World} {n : String} {k : IntKind} {zs : List Int} {g : Nat} (hn : Tryz.prog.globalNamed n = some g) (h : Lib.TabIs Tryz.prog w n k zs) (hb : w'.heap[g]? = w.heap[g]?) : Lib.TabIs Tryz.prog w' n k zs := by
  unfold Lib.TabIs at *
  rw [← h]
  simp only [World.var?, hn, Option.bind_some, hb]
theorem cell_keep {w w' : World} {g : Nat} {v : Value} (h : w.cell? ⟨g, 0, none⟩ = some v) (hb : w'.heap[g]? = w.heap[g]?) : w'.cell? ⟨g, 0, none⟩ = some v := by
  rw [← h]; simp only [World.cell?, hb]
theorem Glob.below {base B : Nat} {w w' : World} (h : Glob base w) (hb : Below B w w') (hB : base ≤ B) : Glob base w' := by
  obtain ⟨h1, h2, ⟨e3, h3, f3⟩, ⟨e4, h4, f4⟩, b1, b2, b3, b4⟩ := h
  exact ⟨tabIs_keep globNamed1 h1 (hb.block _ (by omega)), tabIs_keep globNamed2 h2 (hb.block _ (by omega)), ⟨e3, cell_keep h3 (hb.block _ (by omega)), f3⟩, ⟨e4, cell_keep h4 (hb.block _ (by omega)), f4⟩, b1, b2, b3, b4⟩
theorem Glob.keep {base : Nat} {P : Nat → Prop} {w w' : World} (h : Glob base w) (hb : Keep P w w') (hw : base ≤ w.heap.size) (hP : ∀ k, P k → base ≤ k) : Glob base w' :=
  h.below (hb.below hw hP) (Nat.le_refl _)

/-! ### fields of a place and of a Diag that were handed back -/
theorem posF0 (a b c : Value) (w : World) : (Instr.field 28 (.agg #[a, b, c]) 0).run Tryz.prog w = .ok a w := by kernel_rfl
theorem posF1 (a b c : Value) (w : World) : (Instr.field 28 (.agg #[a, b, c]) 1).run Tryz.prog w = .ok b w := by kernel_rfl
theorem posF2 (a b c : Value) (w : World) : (Instr.field 28 (.agg #[a, b, c]) 2).run Tryz.prog w = .ok c w := by kernel_rfl
/-! ### places in a text -/
abbrev Bs := List UInt8
def lineL (l : Bs) : Nat := l.count 10
def colL (l : Bs) : Nat := (l.reverse.takeWhile (· != 10)).length
theorem lineL_snoc (l : Bs) (c : UInt8) : lineL (l ++ [c]) = lineL l + if c = 10 then 1 else 0 := by
  unfold lineL; rw [List.count_append]; by_cases h : c = 10 <;> simp [h, List.count_cons]
theorem colL_snoc (l : Bs) (c : UInt8) : colL (l ++ [c]) = if c = 10 then 0 else colL l + 1 := by
  unfold colL; rw [List.reverse_append]; by_cases h : c = 10 <;> simp [h, List.takeWhile_cons]
theorem lineL_le (l : Bs) : lineL l ≤ l.length := List.count_le_length
theorem colL_le (l : Bs) : colL l ≤ l.length := by
  unfold colL; have := (List.takeWhile_sublist (l := l.reverse) (· != 10)).length_le; simpa using this
/-- The bytes of a text. -/
def bs (s : ByteArray) : Bs := s.data.toList
theorem bs_len (s : ByteArray) : (bs s).length = s.size := by simp [bs]
def lineAt (s : ByteArray) (p : Nat) : Nat := lineL ((bs s).take p)
def colAt (s : ByteArray) (p : Nat) : Nat := colL ((bs s).take p)
theorem take_snoc (s : ByteArray) (k : Nat) (h : k < s.size) : (bs s).take (k + 1) = (bs s).take k ++ [s[k]] := by
  unfold bs; rw [List.take_succ_eq_append_getElem (by simpa using h)]; rfl
theorem lineAt_succ (s : ByteArray) (k : Nat) (h : k < s.size) : lineAt s (k + 1) = lineAt s k + if s[k] = 10 then 1 else 0 := by
  unfold lineAt; rw [take_snoc s k h, lineL_snoc]
theorem colAt_succ (s : ByteArray) (k : Nat) (h : k < s.size) : colAt s (k + 1) = if s[k] = 10 then 0 else colAt s k + 1 := by
  unfold colAt; rw [take_snoc s k h, colL_snoc]
theorem lineAt_le (s : ByteArray) (k : Nat) : lineAt s k ≤ k := Nat.le_trans (lineL_le _) (List.length_take_le _ _)
theorem colAt_le (s : ByteArray) (k : Nat) : colAt s k ≤ k := Nat.le_trans (colL_le _) (List.length_take_le _ _)
/-- How many bytes at the begin are of a kind. -/
def spanLen (f : UInt8 → Bool) (l : Bs) : Nat := (l.takeWhile f).length
theorem spanLen_le (f : UInt8 → Bool) (l : Bs) : spanLen f l ≤ l.length := (List.takeWhile_sublist f).length_le
theorem spanLen_at (f : UInt8 → Bool) : ∀ (l : Bs) (k : Nat), k < spanLen f l → ∃ c, l[k]? = some c ∧ f c = true
  | [], k, h => by simp [spanLen] at h
  | a :: l, k, h => by
    unfold spanLen at h
    by_cases ha : f a = true
    · rw [List.takeWhile_cons_of_pos ha, List.length_cons] at h
      cases k with
      | zero => exact ⟨a, rfl, ha⟩
      | succ k => obtain ⟨c, h1, h2⟩ := spanLen_at f l k (by unfold spanLen; omega); exact ⟨c, by simpa using h1, h2⟩
    · rw [List.takeWhile_cons_of_neg ha] at h; simp at h
theorem spanLen_end (f : UInt8 → Bool) : ∀ (l : Bs) (c : UInt8), l[spanLen f l]? = some c → f c = false
  | [], c, h => by simp at h
  | a :: l, c, h => by
    unfold spanLen at h
    by_cases ha : f a = true
    · rw [List.takeWhile_cons_of_pos ha, List.length_cons] at h
      exact spanLen_end f l c (by simpa [spanLen] using h)
    · rw [List.takeWhile_cons_of_neg ha] at h
      simp at h; subst h; simpa using ha
/-- Of a text from a place on. -/
def spanAt (f : UInt8 → Bool) (s : ByteArray) (p : Nat) : Nat := spanLen f ((bs s).drop p)
theorem spanAt_le (f : UInt8 → Bool) (s : ByteArray) (p : Nat) (hp : p ≤ s.size) : p + spanAt f s p ≤ s.size := by
  have := spanLen_le f ((bs s).drop p); rw [List.length_drop, bs_len] at this; unfold spanAt; omega
theorem bs_get (s : ByteArray) (k : Nat) (h : k < s.size) : (bs s)[k]? = some s[k] := by
  unfold bs; rw [List.getElem?_eq_getElem (by simpa using h)]; rfl
theorem spanAt_in (f : UInt8 → Bool) (s : ByteArray) (p k : Nat) (h : k < spanAt f s p) (hk : p + k < s.size) : f s[p + k] = true := by
  obtain ⟨c, h1, h2⟩ := spanLen_at f _ k h
  rw [List.getElem?_drop, bs_get s _ hk] at h1
  injection h1 with h1; rw [h1]; exact h2
theorem spanAt_stop (f : UInt8 → Bool) (s : ByteArray) (p : Nat) (hk : p + spanAt f s p < s.size) : f s[p + spanAt f s p] = false := by
  refine spanLen_end f ((bs s).drop p) _ ?_
  rw [List.getElem?_drop]; exact bs_get s _ hk
theorem ret_int {k : IntKind} {a b : Int} (h : a = b) : Ending.returned (.int k a) = .returned (.int k b) := by rw [h]
end Go.Proofs.YtgmmjhelcpgakaaGreatDoor
/- The cursor of package text: what each of its methods answers, and what becomes of its block. -/
namespace Go.Proofs.YtgmmjhelcpgakaaGreatDoor
open Go.RowKit
set_option linter.unusedVariables false
set_option linter.unusedSimpArgs false

/-- The cursor's block: the text s, behind p of its bytes. -/
def CurB (w : World) (b : Nat) (s : ByteArray) (p : Nat) : Prop :=
  Blk w b #[.string s, .int .i64 p, .int .i64 (lineAt s p), .int .i64 (colAt s p)] 138
namespace CurB
variable {w w' : World} {b : Nat} {s : ByteArray} {p : Nat}
theorem c0 (h : CurB w b s p) : w.cell? ⟨b, 0, none⟩ = some (.string s) := Blk.at_ h 0 rfl
theorem c1 (h : CurB w b s p) : w.cell? ⟨b, 1, none⟩ = some (.int .i64 p) := Blk.at_ h 1 rfl
theorem c2 (h : CurB w b s p) : w.cell? ⟨b, 2, none⟩ = some (.int .i64 (lineAt s p)) := Blk.at_ h 2 rfl
theorem c3 (h : CurB w b s p) : w.cell? ⟨b, 3, none⟩ = some (.int .i64 (colAt s p)) := Blk.at_ h 3 rfl
theorem fr (h : CurB w b s p) (i : Nat) : w.frozen? ⟨b, i, none⟩ = false := Blk.free h i
end CurB

theorem peek_in (b : Nat) (s : ByteArray) (p i : Nat) (w : World) (hc : CurB w b s p) (hs : s.size ≤ 140737488351232) (hi : p + i < s.size) :
    Calls Tryz.prog 43 #[.pointer (some ⟨b, 0, none⟩), .int .i64 i] w fun e w' => e = .returned (.tuple #[.int .u8 (s[p + i]'hi).toNat, .bool true]) ∧ Drawn w w' := by
  have h0 := hc.c0
  have h1 := hc.c1
  have g1 : decide ((i : Int) < 0) = false := by simp
  have g2' : decide ((s.size : Int) - (p : Int) ≤ (i : Int)) = false := by simp; omega
  have b1 : (0 : Int) ≤ (p : Int) + (i : Int) := by omega
  have b2 : (p : Int) + (i : Int) < (s.size : Int) := by omega
  go_enter Tryz.func43, Tryz.ntmps43
  go_wp2
  go_quiet (fail)
  go_wp2
  go_quiet (fail)
  go_wp2
  go_ret2
  exact ⟨rfl, Drawn.nn _ _ _⟩

theorem peek_out (b : Nat) (s : ByteArray) (p i : Nat) (w : World) (hc : CurB w b s p) (hs : s.size ≤ 140737488351232) (hp : p ≤ s.size) (hi : s.size ≤ p + i) :
    Calls Tryz.prog 43 #[.pointer (some ⟨b, 0, none⟩), .int .i64 i] w fun e w' => e = .returned (.tuple #[.int .u8 0, .bool false]) ∧ Drawn w w' := by
  have h0 := hc.c0
  have h1 := hc.c1
  have g1 : decide ((i : Int) < 0) = false := by simp
  have g2' : decide ((s.size : Int) - (p : Int) ≤ (i : Int)) = true := by simp; omega
  go_enter Tryz.func43, Tryz.ntmps43
  go_wp2
  go_quiet (fail)
  go_wp2
  go_ret2
  exact ⟨rfl, Drawn.n _ _⟩

/-- The byte i places on, and whether there is one. -/
def peekV (s : ByteArray) (k : Nat) : Value := if h : k < s.size then .tuple #[.int .u8 (s[k]'h).toNat, .bool true] else .tuple #[.int .u8 0, .bool false]
theorem peek_any (b : Nat) (s : ByteArray) (p i : Nat) (w : World) (hc : CurB w b s p) (hs : s.size ≤ 140737488351232) (hp : p ≤ s.size) :
    Calls Tryz.prog 43 #[.pointer (some ⟨b, 0, none⟩), .int .i64 i] w fun e w' => e = .returned (peekV s (p + i)) ∧ Drawn w w' := by
  unfold peekV
  by_cases h : p + i < s.size
  · rw [dif_pos h]; exact peek_in b s p i w hc hs h
  · rw [dif_neg h]; exact peek_out b s p i w hc hs hp (by omega)

theorem next_out (b : Nat) (s : ByteArray) (p : Nat) (w : World) (hc : CurB w b s p) (hs : s.size ≤ 140737488351232) (hp : p = s.size) :
    Calls Tryz.prog 112 #[.pointer (some ⟨b, 0, none⟩)] w fun e w' => e = .returned (.tuple #[.int .u8 0, .bool false]) ∧ Drawn w w' := by
  have HP := Lib.hid hp; clear hp
  go_enter Tryz.func112, Tryz.ntmps112
  go_wp2_with fail
  refine (peek_out b s p 0 _ hc hs (by have := HP.out; omega) (by have := HP.out; omega)).mono ?_
  rintro e w' ⟨rfl, n, rfl⟩
  go_wp2_with fail
  go_ret2
  exact ⟨rfl, Drawn.n _ _⟩

theorem next_in (b : Nat) (s : ByteArray) (p : Nat) (w : World) (hc : CurB w b s p) (hs : s.size ≤ 140737488351232) (hp : p < s.size) :
    Calls Tryz.prog 112 #[.pointer (some ⟨b, 0, none⟩)] w fun e w' => e = .returned (.tuple #[.int .u8 (s[p]'hp).toNat, .bool true]) ∧ CurB w' b s (p + 1) ∧ Keep (· = b) w w' := by
  have h1 := hc.c1
  have h2 := hc.c2
  have h3 := hc.c3
  have f1 := hc.fr 1
  have f2 := hc.fr 2
  have f3 := hc.fr 3
  have l1 := lineAt_le s p
  have l2 := colAt_le s p
  have LS := Lib.hid (lineAt_succ s p hp)
  have CS := Lib.hid (colAt_succ s p hp)
  obtain ⟨c, hcc⟩ : ∃ c, c = s[p] := ⟨_, rfl⟩
  have PK : Calls Tryz.prog 43 #[.pointer (some ⟨b, 0, none⟩), .int .i64 0] w fun e w' => e = .returned (.tuple #[.int .u8 c.toNat, .bool true]) ∧ Drawn w w' := by
    subst hcc; exact peek_in b s p 0 w hc hs (by omega)
  have LS' : Hid (lineAt s (p + 1) = lineAt s p + if c = 10 then 1 else 0) := by rw [hcc]; exact LS
  have CS' : Hid (colAt s (p + 1) = if c = 10 then 0 else colAt s p + 1) := by rw [hcc]; exact CS
  rw [← hcc]
  clear LS CS hcc
  by_cases hn : c = 10
  · have t1 : (((c.toNat : Int)) == 10) = true := by subst hn; rfl
    have HN := Lib.hid hn; clear hn
    go_enter Tryz.func112, Tryz.ntmps112
    go_wp2_with fail
    refine PK.mono ?_
    clear PK
    rintro e w' ⟨rfl, n, rfl⟩
    go_wp2_with fail
    go_ret2
    refine ⟨rfl, ?_, ?_⟩
    · have hb := ((((Blk.drewN hc n).set 1 (.int .i64 (p + 1 : Nat))).set 3 (.int .i64 (colAt s p + 1 : Nat))).set 2 (.int .i64 (lineAt s p + 1 : Nat))).set 3 (.int .i64 0)
      unfold CurB
      rw [LS'.out, CS'.out, if_pos HN.out, if_pos HN.out]
      exact hb
    · exact (((((Keep.refl (· = b) w).drewN n).set1 1 _).set1 3 _).set1 2 _).set1 3 _
  · have t1 : (((c.toNat : Int)) == 10) = false := by
      have : c.toNat ≠ 10 := fun e => hn (by apply UInt8.toNat_inj.1; simpa using e)
      simp; omega
    have HN := Lib.hid hn; clear hn
    go_enter Tryz.func112, Tryz.ntmps112
    go_wp2_with fail
    refine PK.mono ?_
    clear PK
    rintro e w' ⟨rfl, n, rfl⟩
    go_wp2_with fail
    go_ret2
    refine ⟨rfl, ?_, ?_⟩
    · have hb := (((Blk.drewN hc n).set 1 (.int .i64 (p + 1 : Nat))).set 3 (.int .i64 (colAt s p + 1 : Nat)))
      unfold CurB
      rw [LS'.out, CS'.out, if_neg HN.out, if_neg HN.out]
      exact hb
    · exact (((Keep.refl (· = b) w).drewN n).set1 1 _).set1 3 _
end Go.Proofs.YtgmmjhelcpgakaaGreatDoor
/- Functions of Go's library at this program, by the shelf's contracts. -/
namespace Go.Proofs.YtgmmjhelcpgakaaGreatDoor
open Go.RowKit Go.Shelf
set_option linter.unusedVariables false
set_option linter.unusedSimpArgs false

theorem indexByte_any (s : ByteArray) (c : Int) (w : World) :
    Calls Tryz.prog 77 #[.string s, .int .u8 c] w fun e w' => e = .returned (.int .i64 (Lib.indexByte s.data.toList c.toNat.toUInt8)) ∧ w' = w := Any.strings_IndexByte Tryz.lays137 s c w
theorem hasPrefix_any (s p : ByteArray) (w : World) :
    Calls Tryz.prog 114 #[.string s, .string p] w fun e w' => e = .returned (.bool (Lib.hasPrefix s.data.toList p.data.toList)) ∧ w' = w := Any.strings_HasPrefix Tryz.lays99 s p w
theorem toLower_ascii (s : ByteArray) (w : World) (hs : s.size ≤ 140737488355328) (hascii : ∀ (j : Nat) (b : UInt8), s.data.toList[j]? = some b → b.toNat < 128) :
    Calls Tryz.prog 116 #[.string s] w fun e w' => e = .returned (.string ⟨(Lib.toLowerA s.data.toList).toArray⟩) ∧ Below w.heap.size w w' := Any.strings_ToLower_ascii Tryz.lays159 Tryz.Builder_Extra_159 s w hs hascii
theorem trim_set (s cutset : ByteArray) (w : World) (hs : s.size ≤ 9223372036854775807) (hcs : cutset.size < 4294967281) (hascii : ∀ (j : Nat) b, cutset.data.toList[j]? = some b → b.toNat < 128) :
    Calls Tryz.prog 143 #[.string s, .string cutset] w fun e w' => e = .returned (.string ⟨(Lib.trimS s.data.toList cutset.data.toList).toArray⟩) ∧ Below w.heap.size w w' := Any.strings_Trim_laid Tryz.lays160 (by kernel_rfl) s cutset w hs hcs hascii
theorem atoi_ok (s : ByteArray) (hmax : s.size ≤ 9223372036854775806) (v : Int) (h : Lib.atoiAll s.data.toList = .ok v) (w : World) :
    Calls Tryz.prog 122 #[.string s] w fun e w' => e = .returned (.tuple #[.int .i64 v, .nilIface]) ∧ (w' = w ∨ ∃ t, w' = Lib.bytesWorld w 5 t) := Any.strconv_Atoi_ok Tryz.laysC172 s hmax v h w
theorem atoi_bad (s : ByteArray) (hlim : s.size ≤ 281474976710656) (h0 : ∀ v, Lib.atoiAll s.data.toList ≠ .ok v) (h1 : Lib.atoiAll s.data.toList ≠ .range) (ev : Value) (w : World) (hv : w.cell? ⟨3, 0, none⟩ = some ev) (hev : ev = .nilIface ∨ ∃ te pe, ev = .iface te pe) :
    Calls Tryz.prog 122 #[.string s] w fun e w' => ∃ N, e = .returned (.tuple #[.int .i64 (0), .iface 216 (.pointer (some ⟨N, 0, none⟩))]) ∧ Below w.heap.size w w' :=
  (Any.strconv_Atoi_syntax Tryz.laysC172 s hlim (by cases h : Lib.atoiAll s.data.toList <;> first | rfl | exact absurd h (h0 _) | exact absurd h h1) ev w hv hev).mono fun e w' ⟨N, h1, _, _, h4⟩ => ⟨N, h1, h4⟩
theorem atoi_range (s : ByteArray) (hlim : s.size ≤ 281474976710656) (h : Lib.atoiAll s.data.toList = .range) (ev : Value) (w : World) (hv : w.cell? ⟨4, 0, none⟩ = some ev) (hev : ev = .nilIface ∨ ∃ te pe, ev = .iface te pe) :
    Calls Tryz.prog 122 #[.string s] w fun e w' => ∃ N, e = .returned (.tuple #[.int .i64 (Lib.atoiSat s.data.toList), .iface 216 (.pointer (some ⟨N, 0, none⟩))]) ∧ Below w.heap.size w w' :=
  (Any.strconv_Atoi_range Tryz.laysC172 s hlim h ev w hv hev).mono fun e w' ⟨N, h1, _, _, h4⟩ => ⟨N, h1, h4⟩
theorem fields_laid (s : ByteArray) (w : World) (hs : s.size < 4294967281) (hascii : ∀ (j : Nat) b, s.data.toList[j]? = some b → b.toNat < 128) (htab : Lib.TabIs Tryz.prog w "strings.asciiSpace" .u8 Lib.asciiSpaceTab) :
    Calls Tryz.prog 184 #[.string s] w fun e w' =>
      e = .returned (.slice (some ⟨w.heap.size, 0, none⟩) (Lib.fields s.data.toList).length (Lib.fields s.data.toList).length) ∧ w' = w.alloc (.cells ((Lib.fields s.data.toList).map fun l => Value.string ⟨l.toArray⟩).toArray 9) := Any.strings_Fields_laid Tryz.laysM157 s w hs hascii htab
theorem search_any (b off n c : Nat) (Sx : Nat → ByteArray) (x : ByteArray) (w : World) (hbig : n < 4611686018427387904) (hc : ∀ j, j < n → w.cell? ⟨b, off + j, none⟩ = some (.string (Sx j))) :
    Calls Tryz.prog 153 #[.slice (some ⟨b, off, none⟩) n c, .string x] w fun e w' =>
      e = .returned (.tuple #[.int .i64 (Lib.bsGo (fun t => Op.bytesLess (Sx t).toList x.toList) n 0 n : Nat), .bool (decide (Lib.bsGo (fun t => Op.bytesLess (Sx t).toList x.toList) n 0 n < n ∧ Sx (Lib.bsGo (fun t => Op.bytesLess (Sx t).toList x.toList) n 0 n) = x))]) ∧ ∃ q, w' = w.drewN q := Any2.slices_BinarySearch_string Tryz.laysB26 b off n c Sx x w hbig hc
theorem atoi_world {w w' : World} {t : TypeId} (h : w' = w ∨ ∃ x, w' = Lib.bytesWorld w t x) : Below w.heap.size w w' := by
  rcases h with rfl | ⟨x, rfl⟩
  · exact Below.refl _ _
  · exact Lib.bytesWorld_below _ _ _
theorem indexByte_pos (l : List UInt8) (c : UInt8) (h : l.contains c = true) : 0 ≤ Lib.indexByte l c := by
  induction l with
  | nil => simp at h
  | cons b l ih =>
    unfold Lib.indexByte
    by_cases hb : (b == c) = true
    · rw [if_pos hb]; omega
    · rw [if_neg hb]
      have hl : l.contains c = true := by
        simp only [List.contains_cons, Bool.or_eq_true] at h
        rcases h with h | h
        · exact absurd (by simpa using (eq_of_beq h).symm) hb
        · exact h
      have := ih hl
      rw [if_neg (by simp; omega)]; omega
theorem indexByte_neg (l : List UInt8) (c : UInt8) (h : l.contains c = false) : Lib.indexByte l c = -1 := by
  induction l with
  | nil => rfl
  | cons b l ih =>
    unfold Lib.indexByte
    simp only [List.contains_cons, Bool.or_eq_false_iff] at h
    have hb : ¬ (b == c) = true := by
      intro hb; have := eq_of_beq hb; subst this; simp at h
    rw [if_neg hb, ih h.2]; rfl
theorem u8_back (c : UInt8) : ((c.toNat : Int)).toNat.toUInt8 = c := by simp
theorem indexByte_at (s : ByteArray) (c : UInt8) (w : World) :
    Calls Tryz.prog 77 #[.string s, .int .u8 (c.toNat : Int)] w fun e w' => e = .returned (.int .i64 (Lib.indexByte (bs s) c)) ∧ w' = w := by
  have h := indexByte_any s c.toNat w
  rw [u8_back] at h
  exact h
end Go.Proofs.YtgmmjhelcpgakaaGreatDoor
/- The cursor of package text, its loops: Skip, While; Pos, New. -/
namespace Go.Proofs.YtgmmjhelcpgakaaGreatDoor
open Go.RowKit
set_option linter.unusedVariables false
set_option linter.unusedSimpArgs false

theorem skip_any (b : Nat) (s : ByteArray) (p n : Nat) (w : World) (hc : CurB w b s p) (hs : s.size ≤ 140737488351232) (hp : p + n ≤ s.size) :
    Calls Tryz.prog 78 #[.pointer (some ⟨b, 0, none⟩), .int .i64 n] w fun e w' => e = .returned (.int .i64 n) ∧ CurB w' b s (p + n) ∧ Keep (· = b) w w' := by
  go_enter Tryz.func78, Tryz.ntmps78
  go_wp2_with fail
  go_loopw [5] (fun i wr => ∃ k : Nat, k ≤ n ∧ i = .int .i64 k ∧ CurB wr b s (p + k) ∧ Keep (· = b) w wr) (fun i _ => n - (intOf i).toNat)
  case atStart => exact ⟨0, Nat.zero_le _, rfl, hc, Keep.refl _ _⟩
  case round =>
    obtain ⟨k, hk, rfl, hcr, hkr⟩ := hrel
    by_cases hlt : k < n
    · have ht : decide ((k : Int) < (n : Int)) = true := by simp; omega
      go_wp2_with fail
      refine (next_in b s (p + k) _ hcr hs (by omega)).mono ?_
      rintro e w1 ⟨rfl, hc1, hk1⟩
      go_wp2_with fail
      go_roundw
      case rel => exact ⟨k + 1, by omega, by go_num, hc1, hkr.trans hk1⟩
      case measure => simp [intOf]; omega
    · have ht : decide ((k : Int) < (n : Int)) = false := by simp; omega
      obtain rfl : k = n := by omega
      go_wp2_with fail
      go_ret
      exact ⟨rfl, hcr, hkr⟩

def posV (s : ByteArray) (p : Nat) : Value := .agg #[.int .i64 p, .int .i64 (lineAt s p), .int .i64 (colAt s p)]
theorem pos_any (b : Nat) (s : ByteArray) (p : Nat) (w : World) (hc : CurB w b s p) :
    Calls Tryz.prog 42 #[.pointer (some ⟨b, 0, none⟩)] w fun e w' => e = .returned (.agg #[.int .i64 p, .int .i64 (lineAt s p), .int .i64 (colAt s p)]) ∧ Keep (fun _ => False) w w' := by
  have h1 := hc.c1
  have h2 := hc.c2
  have h3 := hc.c3
  have hlt := Blk.lt hc
  go_enter Tryz.func42, Tryz.ntmps42
  go_wp2_with fail
  refine bodyPost_ret (v := posV s p) (by simp [posV, results, Tryz.results42, go_sem]) rfl ⟨rfl, ?_⟩
  exact (Keep.refl _ w).alloc _

theorem new_any (s : ByteArray) (w : World) :
    Calls Tryz.prog 76 #[.string s] w fun e w' => e = .returned (.pointer (some ⟨w.heap.size, 0, none⟩)) ∧ w' = w.alloc (.cells #[.string s, .int .i64 0, .int .i64 0, .int .i64 0] 138 (0, 0)) := by
  go_enter Tryz.func76, Tryz.ntmps76
  go_wp2_with fail
  go_ret
  exact ⟨rfl, rfl⟩
end Go.Proofs.YtgmmjhelcpgakaaGreatDoor
/- The cursor of package text: While. -/
namespace Go.Proofs.YtgmmjhelcpgakaaGreatDoor
open Go.RowKit
set_option linter.unusedVariables false
set_option linter.unusedSimpArgs false

def inSet (set : ByteArray) (c : UInt8) : Bool := (bs set).contains c
theorem while_any (b : Nat) (s set : ByteArray) (p : Nat) (w : World) (hc : CurB w b s p) (hs : s.size ≤ 140737488351232) (hp : p ≤ s.size) :
    Calls Tryz.prog 41 #[.pointer (some ⟨b, 0, none⟩), .string set] w fun e w' =>
      e = .returned (.string (s.extract p (p + spanAt (inSet set) s p))) ∧ CurB w' b s (p + spanAt (inSet set) s p) ∧ Keep (· = b) w w' := by
  obtain ⟨n, hn⟩ : ∃ n, n = spanAt (inSet set) s p := ⟨_, rfl⟩
  have hle := spanAt_le (inSet set) s p hp
  rw [← hn] at hle ⊢
  have HN := Lib.hid hn; clear hn
  go_enter Tryz.func41, Tryz.ntmps41
  go_wp2_with fail
  go_loopw [5] (fun i wr => ∃ k : Nat, k ≤ n ∧ i = .int .i64 k ∧ Drawn w wr) (fun i _ => n - (intOf i).toNat)
  case atStart => exact ⟨0, Nat.zero_le _, rfl, Drawn.refl _⟩
  case round =>
    obtain ⟨k, hk, rfl, hdr⟩ := hrel
    have HD := Lib.hid hdr; clear hdr
    have hcr : CurB wr b s p := HD.out.blk hc
    have hc1 := hcr.c1
    by_cases hlt : k < n
    · have hin : p + k < s.size := by omega
      have hset : inSet set s[p + k] = true := spanAt_in _ s p k (by rw [← HN.out]; exact hlt) hin
      have PK := peek_in b s p k wr hcr hs hin
      generalize s[p + k] = c at PK hset
      have hpos := indexByte_pos (bs set) c hset
      have ht : decide (Lib.indexByte (bs set) c < 0) = false := by simp; omega
      have HS := Lib.hid hset; clear hset
      go_wp2_with fail
      refine PK.mono ?_
      clear PK
      rintro e w1 ⟨rfl, q, rfl⟩
      go_wp2_with fail
      refine (indexByte_at set c _).mono ?_
      rintro e w1 ⟨rfl, rfl⟩
      go_wp2_with fail
      go_roundw
      case rel => exact ⟨k + 1, by omega, by go_num, by obtain ⟨q0, hq0⟩ := HD.out; exact ⟨q0 + q, by rw [hq0, World.drewN_drewN]⟩⟩
      case measure => simp [intOf]; omega
    · obtain rfl : k = n := by omega
      have key : ∀ wz : World, Drawn w wz → CurB wz b s p := fun wz hz => hz.blk hc
      by_cases hin : p + k < s.size
      · have hset : inSet set s[p + k] = false := by
          have := spanAt_stop (inSet set) s p (by rw [← HN.out]; exact hin)
          simpa [← HN.out] using this
        have PK := peek_in b s p k wr hcr hs hin
        generalize s[p + k] = c at PK hset
        have hneg := indexByte_neg (bs set) c hset
        have ht : decide (Lib.indexByte (bs set) c < 0) = true := by simp; omega
        have HS := Lib.hid hset; clear hset
        have HG := Lib.hid hneg; clear hneg
        by_cases hz : k = 0
        · have ht0 : ((k : Int) == 0) = true := by simp; omega
          have HZ := Lib.hid hz; clear hz
          go_wp2_with fail
          refine PK.mono ?_
          clear PK
          rintro e w1 ⟨rfl, q, rfl⟩
          go_wp2_with fail
          refine (indexByte_at set c _).mono ?_
          rintro e w1 ⟨rfl, rfl⟩
          go_wp2_with fail
          go_ret
          have hd : Drawn w (wr.drewN q) := by obtain ⟨q0, hq0⟩ := HD.out; exact ⟨q0 + q, by rw [hq0, World.drewN_drewN]⟩
          have k0 := HZ.out
          refine ⟨by rw [k0]; congr 2; simp [ByteArray.ext_iff, ByteArray.data_extract], by rw [k0]; exact key _ hd, hd.keep⟩
        · have ht0 : ((k : Int) == 0) = false := by simp; omega
          go_wp2_with fail
          refine PK.mono ?_
          clear PK
          rintro e w1 ⟨rfl, q, rfl⟩
          go_wp2_with fail
          refine (indexByte_at set c _).mono ?_
          rintro e w1 ⟨rfl, rfl⟩
          go_wp2_with fail
          have hc2 : CurB (wr.drewN q) b s p := key _ (by obtain ⟨q0, hq0⟩ := HD.out; exact ⟨q0 + q, by rw [hq0, World.drewN_drewN]⟩)
          refine (skip_any b s p k _ hc2 hs hle).mono ?_
          rintro e w2 ⟨rfl, hc3, hk3⟩
          have hd0 := hc3.c0
          have hd1 := hc3.c1
          have b1 : (0 : Int) ≤ (p : Int) := by omega
          have b2 : (p : Int) ≤ (p : Int) + (k : Int) := by omega
          have b3 : (p : Int) + (k : Int) ≤ (s.size : Int) := by omega
          go_wp2_with fail
          go_quiet (fail)
          go_wp2_with fail
          go_ret
          have hd : Drawn w (wr.drewN q) := by obtain ⟨q0, hq0⟩ := HD.out; exact ⟨q0 + q, by rw [hq0, World.drewN_drewN]⟩
          exact ⟨rfl, Blk.drewN hc3 _, ((hd.keep).trans hk3).drewN _⟩
      · have PK := peek_out b s p k wr hcr hs hp (by omega)
        by_cases hz : k = 0
        · have ht0 : ((k : Int) == 0) = true := by simp; omega
          have HZ := Lib.hid hz; clear hz
          go_wp2_with fail
          refine PK.mono ?_
          clear PK
          rintro e w1 ⟨rfl, q, rfl⟩
          go_wp2_with fail
          go_ret
          have hd : Drawn w (wr.drewN q) := by obtain ⟨q0, hq0⟩ := HD.out; exact ⟨q0 + q, by rw [hq0, World.drewN_drewN]⟩
          have k0 := HZ.out
          refine ⟨by rw [k0]; congr 2; simp [ByteArray.ext_iff, ByteArray.data_extract], by rw [k0]; exact key _ hd, hd.keep⟩
        · have ht0 : ((k : Int) == 0) = false := by simp; omega
          go_wp2_with fail
          refine PK.mono ?_
          clear PK
          rintro e w1 ⟨rfl, q, rfl⟩
          go_wp2_with fail
          have hc2 : CurB (wr.drewN q) b s p := key _ (by obtain ⟨q0, hq0⟩ := HD.out; exact ⟨q0 + q, by rw [hq0, World.drewN_drewN]⟩)
          refine (skip_any b s p k _ hc2 hs hle).mono ?_
          rintro e w2 ⟨rfl, hc3, hk3⟩
          have hd0 := hc3.c0
          have hd1 := hc3.c1
          have b1 : (0 : Int) ≤ (p : Int) := by omega
          have b2 : (p : Int) ≤ (p : Int) + (k : Int) := by omega
          have b3 : (p : Int) + (k : Int) ≤ (s.size : Int) := by omega
          go_wp2_with fail
          go_quiet (fail)
          go_wp2_with fail
          go_ret
          have hd : Drawn w (wr.drewN q) := by obtain ⟨q0, hq0⟩ := HD.out; exact ⟨q0 + q, by rw [hq0, World.drewN_drewN]⟩
          exact ⟨rfl, Blk.drewN hc3 _, ((hd.keep).trans hk3).drewN _⟩
end Go.Proofs.YtgmmjhelcpgakaaGreatDoor
/- Comments, read: what package note's Read answers, in plain words (Pas). -/
namespace Go.Proofs.YtgmmjhelcpgakaaGreatDoor
set_option linter.unusedVariables false

def rightB (c : UInt8) : Bool := c == 9 || c == 10 || (decide (32 ≤ c.toNat) && decide (c.toNat ≤ 126))
/-- From a place on: the text, how many bytes were read, the error. -/
def noteGo : Bs → Bs → Nat → Bs × Nat × Nat
  | [], _, _ => ([], 0, 8)
  | c :: l, out, i =>
    if c = 125 then (out, i + 1, 0)
    else if c = 92 then
      match l with
      | [] => ([], 0, 8)
      | d :: l' => if d = 92 ∨ d = 125 then (if out.length = 1024 then ([], 0, 3) else noteGo l' (out ++ [d]) (i + 2)) else ([], 0, 8)
    else if rightB c = true then (if out.length = 1024 then ([], 0, 3) else noteGo l (out ++ [c]) (i + 1)) else ([], 0, 8)
def noteBegins (l : Bs) : Bool := l.head? == some 123
def noteRead (l : Bs) : Bs × Nat × Nat := if noteBegins l = true then noteGo (l.drop 1) [] 1 else ([], 0, 8)

section
variable (l : Bs) (out : Bs) (i : Nat) (c d : UInt8)
theorem noteGo_nil : noteGo [] out i = ([], 0, 8) := by rw [noteGo]
theorem noteGo_end : noteGo (125 :: l) out i = (out, i + 1, 0) := by rw [noteGo.eq_def]; simp
theorem noteGo_bs0 : noteGo [92] out i = ([], 0, 8) := by rw [noteGo.eq_def]; simp
theorem noteGo_bs_bad (h : ¬ (d = 92 ∨ d = 125)) : noteGo (92 :: d :: l) out i = ([], 0, 8) := by rw [noteGo.eq_def]; simp [h]
theorem noteGo_bs_full (h : d = 92 ∨ d = 125) (ho : out.length = 1024) : noteGo (92 :: d :: l) out i = ([], 0, 3) := by rw [noteGo.eq_def]; simp [h, ho]
theorem noteGo_bs (h : d = 92 ∨ d = 125) (ho : out.length ≠ 1024) : noteGo (92 :: d :: l) out i = noteGo l (out ++ [d]) (i + 2) := by rw [noteGo.eq_def]; simp [h, ho]
theorem noteGo_bad (h1 : c ≠ 125) (h2 : c ≠ 92) (h : rightB c = false) : noteGo (c :: l) out i = ([], 0, 8) := by rw [noteGo.eq_def]; simp [h, h1, h2]
theorem noteGo_full (h1 : c ≠ 125) (h2 : c ≠ 92) (h : rightB c = true) (ho : out.length = 1024) : noteGo (c :: l) out i = ([], 0, 3) := by rw [noteGo.eq_def]; simp [h, h1, h2, ho]
theorem noteGo_go (h1 : c ≠ 125) (h2 : c ≠ 92) (h : rightB c = true) (ho : out.length ≠ 1024) : noteGo (c :: l) out i = noteGo l (out ++ [c]) (i + 1) := by rw [noteGo.eq_def]; simp [h, h1, h2, ho]
end
theorem bs_drop (s : ByteArray) (k : Nat) (h : k < s.size) : (bs s).drop k = s[k] :: (bs s).drop (k + 1) := by
  unfold bs; rw [List.drop_eq_getElem_cons (by simpa using h)]; rfl
theorem bs_drop_end (s : ByteArray) (k : Nat) (h : s.size ≤ k) : (bs s).drop k = [] := List.drop_eq_nil_of_le (by rw [bs_len]; exact h)
theorem bs_extract (s : ByteArray) (a b : Nat) : bs (s.extract a b) = ((bs s).take b).drop a := by
  unfold bs; rw [ByteArray.data_extract, Array.toList_extract, List.extract_eq_take_drop, List.drop_take]
theorem bs_tail (s : ByteArray) (k : Nat) : bs (s.extract k s.size) = (bs s).drop k := by
  rw [bs_extract, List.take_of_length_le (by rw [bs_len]; exact Nat.le_refl _)]
end Go.Proofs.YtgmmjhelcpgakaaGreatDoor
/- Rows of bytes that a call makes itself. -/
namespace Go.Proofs.YtgmmjhelcpgakaaGreatDoor
open Go.RowKit
set_option linter.unusedVariables false
set_option linter.unusedSimpArgs false

def u8v (c : UInt8) : Value := .int .u8 (c.toNat : Int)
def OwnBytes (w : World) (base : Nat) (v : Value) (l : Bs) : Prop := w.ownsRow base 5 1 v l.length (l.map u8v)
theorem info_u8 : (Tryz.prog.info? 5).map (fun i => (i.zero, i.size, i.bytes)) = some (some (.int .u8 0), 1, 1) := by kernel_rfl
theorem ownsRow_drewN {w : World} {base : Nat} {e : TypeId} {size n : Nat} {v : Value} {xs : List Value} (h : w.ownsRow base e size v n xs) (q : Nat) : (w.drewN q).ownsRow base e size v n xs := h
theorem OwnBytes.nil (w : World) (base : Nat) : OwnBytes w base (.slice none 0 0) [] := World.ownsRow_nil _ _ _ _
theorem OwnBytes.drewN {w : World} {base : Nat} {v : Value} {l : Bs} (h : OwnBytes w base v l) (q : Nat) : OwnBytes (w.drewN q) base v l := h
theorem OwnBytes.alloc {w : World} {base : Nat} {v : Value} {l : Bs} (h : OwnBytes w base v l) (o : Obj) : OwnBytes (w.alloc o) base v l := World.ownsRow.alloc h o
theorem OwnBytes.form {w : World} {base : Nat} {v : Value} {l : Bs} (h : OwnBytes w base v l) : ∃ A c, v = .slice A l.length c := by
  rcases h.2 with ⟨rfl, h0⟩ | ⟨g, cap, cur, rfl, _⟩
  · exact ⟨none, 0, by rw [h0]⟩
  · exact ⟨_, cap, rfl⟩
theorem nums_bytes (l : Bs) : strOfNums (l.map fun x => (x.toNat : Int)) = ⟨l.toArray⟩ := by
  unfold strOfNums; simp [Function.comp_def]
/-- The row as a string. -/
theorem OwnBytes.str {w : World} {base : Nat} {v : Value} {l : Bs} (h : OwnBytes w base v l) (q : Nat) :
    (convert 112 9 v).run Tryz.prog (w.drewN q) = .ok (.string ⟨l.toArray⟩) (w.drewN q) := by
  have hq := h.drewN q
  have hl : (l.map u8v).length = l.length := by simp
  rcases hq.2 with ⟨rfl, h0⟩ | ⟨g, cap, cur, rfl, hr⟩
  · have : l = [] := List.eq_nil_of_length_eq_zero h0
    subst this
    exact run_convert_bytes_nil _ _ _ Tryz.underlying112 Tryz.underlying5 _ _ _ Tryz.underlying9
  · rw [← nums_bytes]
    refine run_convert_bytes_arg _ _ _ Tryz.underlying112 Tryz.underlying5 g 0 l.length cap (l.map fun x => (x.toNat : Int)) (by simp) (fun i hi => ?_) _ Tryz.underlying9
    have hc := World.ownsRow.cells hq (g := g) rfl i (u8v l[i]) (by simp [List.getElem?_eq_getElem hi])
    have ha : (⟨g, 0, none⟩ : Addr).add i = ⟨g, 0 + i, none⟩ := by unfold Addr.add; split <;> simp_all
    rw [ha] at hc
    rw [hc]
    simp [u8v, List.getD_eq_getElem?_getD, List.getElem?_eq_getElem hi]
theorem OwnBytes.str0 {w : World} {base : Nat} {v : Value} {l : Bs} (h : OwnBytes w base v l) :
    (convert 112 9 v).run Tryz.prog w = .ok (.string ⟨l.toArray⟩) w := h.str 0
theorem OwnBytes.str2 {w : World} {base : Nat} {v : Value} {l : Bs} (h : OwnBytes w base v l) (q r : Nat) :
    (convert 112 9 v).run Tryz.prog ((w.drewN q).drewN r) = .ok (.string ⟨l.toArray⟩) ((w.drewN q).drewN r) := (h.drewN q).str r
/-- What an append leaves, in these words. -/
theorem OwnBytes.snoc {w : World} {base : Nat} {v : Value} {l : Bs} {c : UInt8} (h : w.ownsRow base 5 1 v (l.length + 1) (l.map u8v ++ [.int .u8 (c.toNat : Int)])) : OwnBytes w base v (l ++ [c]) := by
  unfold OwnBytes; simpa [u8v] using h
theorem OwnBytes.keep {P : Nat → Prop} {w w' : World} {base : Nat} {v : Value} {l : Bs} (h : OwnBytes w base v l) (hk : Keep P w w') (hp : ∀ k, P k → k < base) : OwnBytes w' base v l := by
  obtain ⟨h1, h2⟩ := h
  refine ⟨h1, ?_⟩
  rcases h2 with h2 | ⟨g, cap, cur, rfl, hb, hg, r⟩
  · exact .inl h2
  · refine .inr ⟨g, cap, cur, rfl, hb, ?_, r⟩
    rw [hk.block g (Blk.lt (cs := cur) (t := 5) hg) (fun hpg => by have := hp g hpg; omega)]; exact hg
end Go.Proofs.YtgmmjhelcpgakaaGreatDoor
