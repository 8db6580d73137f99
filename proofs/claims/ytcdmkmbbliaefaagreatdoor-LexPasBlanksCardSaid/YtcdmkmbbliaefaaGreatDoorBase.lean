/- What the walks of this seat share: blocks known whole, worlds that differ in some blocks alone, the library's variables, places in a text. -/
import Derived.Test.YtcdmkmbbliaefaaGreatDoorProg
import Derived.WalkKit
import Derived.Below
import Derived.Deep.QuietTactic
import Derived.BigQuiet
import Derived.Deep.LoopGhost
import Derived.Deep.DeepCutAuto
import Derived.Lib.Hide
import Derived.Lib.LaidTab
import Derived.Shelf.Strings.SplitShaped
import Derived.Shelf.Strconv.Itoa4
set_option linter.unusedVariables false
set_option linter.unusedSimpArgs false
namespace Go.Proofs.YtcdmkmbbliaefaaGreatDoor
open Go.RowKit

/-- A block known whole. -/
def Blk (w : World) (b : Nat) (cs : Array Value) (t : Nat) : Prop := w.heap[b]? = some (.cells cs t (0, 0))
namespace Blk
variable {w w' : World} {b : Nat} {cs : Array Value} {t : Nat}
theorem cell (h : Blk w b cs t) (i : Nat) : w.cell? ⟨b, i, none⟩ = cs[i]? := by
  unfold Blk at h; simp [World.cell?, h]
theorem at_ (h : Blk w b cs t) (i : Nat) {v : Value} (hv : cs[i]? = some v) : w.cell? ⟨b, i, none⟩ = some v := (h.cell i).trans hv
theorem free (h : Blk w b cs t) (i : Nat) : w.frozen? ⟨b, i, none⟩ = false := by
  unfold Blk at h; simp [World.frozen?, h]
theorem lt (h : Blk w b cs t) : b < w.heap.size := by
  rcases Nat.lt_or_ge b w.heap.size with h' | h'
  · exact h'
  · unfold Blk at h; simp [Array.getElem?_eq_none h'] at h
theorem set (h : Blk w b cs t) (i : Nat) (u : Value) : Blk (w.setCell ⟨b, i, none⟩ u) b (cs.setIfInBounds i u) t := by
  unfold Blk at *; simp [World.setCell, Array.getElem?_modify, h]
theorem far (h : Blk w b cs t) {p : Addr} (hp : b ≠ p.block) (u : Value) : Blk (w.setCell p u) b cs t := (Below.heap_setCell w p u b hp).trans h
theorem alloc (h : Blk w b cs t) (o : Obj) : Blk (w.alloc o) b cs t := (Below.heap_alloc w o b h.lt).trans h
theorem new (w : World) (cs : Array Value) (t : Nat) : Blk (w.alloc (.cells cs t (0, 0))) w.heap.size cs t := by
  show (w.heap.push _)[w.heap.size]? = _
  simp
theorem drewN (h : Blk w b cs t) (n : Nat) : Blk (w.drewN n) b cs t := by
  unfold Blk at *; rw [← h]; rfl
theorem ne {b' : Nat} {cs' : Array Value} {t' : Nat} (h : Blk w b cs t) (h' : Blk w b' cs' t') (hne : t ≠ t') : b ≠ b' := by
  rintro rfl
  unfold Blk at *
  rw [h] at h'
  injection h' with h'
  injection h' with _ ht
  exact hne ht
theorem new0 (w : World) (q : Nat) (v : Value) (t : Nat) : ((w.drewN q).alloc (.cells #[v] t (0, 0))).cell? ⟨w.heap.size, 0, none⟩ = some v := (new (w.drewN q) #[v] t).at_ 0 rfl
theorem new3 (w : World) (A B C : Obj) : (((w.alloc A).alloc B).alloc C).heap[w.heap.size + 2]? = some C := by
  show (((w.heap.push A).push B).push C)[w.heap.size + 2]? = _
  rw [Array.getElem?_push, if_pos (by simp)]
theorem new2 (w : World) (A B : Obj) : ((w.alloc A).alloc B).heap[w.heap.size + 1]? = some B := by
  show ((w.heap.push A).push B)[w.heap.size + 1]? = _
  rw [Array.getElem?_push, if_pos (by simp)]
end Blk

/-- w' is w but for the blocks of P, and new ones. -/
structure Keep (P : Nat → Prop) (w w' : World) : Prop where
  os : w'.os = w.os
  tape : w'.tape = w.tape
  output : w'.output = w.output
  size : w.heap.size ≤ w'.heap.size
  block : ∀ k, k < w.heap.size → ¬ P k → w'.heap[k]? = w.heap[k]?
namespace Keep
variable {P Q : Nat → Prop} {w w1 w2 : World}
theorem refl (P : Nat → Prop) (w : World) : Keep P w w := ⟨rfl, rfl, rfl, Nat.le_refl _, fun _ _ _ => rfl⟩
theorem trans (h : Keep P w w1) (k : Keep P w1 w2) : Keep P w w2 :=
  ⟨k.os.trans h.os, k.tape.trans h.tape, k.output.trans h.output, Nat.le_trans h.size k.size, fun i hi hp => (k.block i (Nat.lt_of_lt_of_le hi h.size) hp).trans (h.block i hi hp)⟩
theorem mono (h : Keep P w w1) (hq : ∀ k, k < w.heap.size → P k → Q k) : Keep Q w w1 := ⟨h.os, h.tape, h.output, h.size, fun i hi hp => h.block i hi fun hpi => hp (hq i hi hpi)⟩
theorem drewN (h : Keep P w w1) (n : Nat) : Keep P w (w1.drewN n) := h.trans ⟨rfl, rfl, rfl, Nat.le_refl _, fun _ _ _ => rfl⟩
theorem drew (h : Keep P w w1) : Keep P w w1.drew := h.trans ⟨rfl, rfl, rfl, Nat.le_refl _, fun _ _ _ => rfl⟩
theorem alloc (h : Keep P w w1) (o : Obj) : Keep P w (w1.alloc o) := h.trans ⟨rfl, rfl, rfl, by simp, fun k hk _ => Below.heap_alloc _ _ _ hk⟩
theorem setCell (h : Keep P w w1) {p : Addr} (hp : p.block < w.heap.size → P p.block) (u : Value) : Keep P w (w1.setCell p u) :=
  ⟨h.os, h.tape, h.output, by simpa [World.setCell] using h.size, fun k hk hn => (Below.heap_setCell w1 p u k (fun e => hn (by subst e; exact hp hk))).trans (h.block k hk hn)⟩
theorem set1 {b : Nat} (h : Keep (· = b) w w1) (i : Nat) (u : Value) : Keep (· = b) w (w1.setCell ⟨b, i, none⟩ u) := h.setCell (fun _ => rfl) u
theorem of_below (h : Below w.heap.size w w1) : Keep P w w1 := ⟨h.os, h.tape, h.output, h.size, fun k hk _ => h.block k hk⟩
theorem below {B : Nat} (h : Keep P w w1) (hB : B ≤ w.heap.size) (hP : ∀ k, P k → B ≤ k) : Below B w w1 := ⟨h.os, h.tape, h.output, h.size, fun k hk => h.block k (by omega) fun hp => by have := hP k hp; omega⟩
theorem of_below' {B : Nat} (h : Below B w w1) : Keep (B ≤ ·) w w1 := ⟨h.os, h.tape, h.output, h.size, fun k hk hp => h.block k (by omega)⟩
theorem grown {row : Option Nat} (h : Keep P w w1) (hg : w1.grownBy w2 row) (hr : ∀ k, row = some k → k < w.heap.size → P k) : Keep P w w2 :=
  ⟨hg.os.trans h.os, hg.tape.trans h.tape, hg.output.trans h.output, Nat.le_trans h.size hg.size, fun k hk hp => (hg.block k (Nat.lt_of_lt_of_le hk h.size) (fun e => hp (hr k e.symm hk))).trans (h.block k hk hp)⟩
theorem blk (h : Keep P w w1) {b : Nat} {cs : Array Value} {t : Nat} (hb : Blk w b cs t) (hp : ¬ P b) : Blk w1 b cs t := (h.block b hb.lt hp).trans hb
end Keep

/-- A quiet call, behind a region that has drawn. -/
theorem quiet_add {P : Program} {f : FuncId} {args : Array Value} {w : World} {a n : Nat} {v : Value}
    (h : Calls P f args (w.drewN (a + n)) fun e w' => e = .returned v ∧ ∃ m, w' = (w.drewN (a + n)).drewN m) :
    Calls P f args (w.drewN (a + n)) fun e w'' => e = .returned v ∧ ∃ m, w'' = w.drewN (a + m) :=
  h.mono fun _ _ ⟨he, m, hm⟩ => ⟨he, n + m, by rw [hm, World.drewN_drewN, Nat.add_assoc]⟩
theorem quiet_add_same {P : Program} {f : FuncId} {args : Array Value} {w : World} {a n : Nat} {v : Value}
    (h : Calls P f args (w.drewN (a + n)) fun e w' => e = .returned v ∧ w' = w.drewN (a + n)) :
    Calls P f args (w.drewN (a + n)) fun e w'' => e = .returned v ∧ ∃ m, w'' = w.drewN (a + m) :=
  h.mono fun _ _ ⟨he, hm⟩ => ⟨he, n, hm⟩
/-- A world's own bytes are as they were; orders may have been drawn. -/
def Drawn (w w' : World) : Prop := ∃ n, w' = w.drewN n
theorem Drawn.refl (w : World) : Drawn w w := ⟨0, rfl⟩
theorem Drawn.n (w : World) (n : Nat) : Drawn w (w.drewN n) := ⟨n, rfl⟩
theorem Drawn.nn (w : World) (m n : Nat) : Drawn w ((w.drewN m).drewN n) := ⟨m + n, World.drewN_drewN ..⟩
theorem Drawn.keep {P : Nat → Prop} {w w' : World} (h : Drawn w w') : Keep P w w' := by
  obtain ⟨n, rfl⟩ := h; exact (Keep.refl P w).drewN n
theorem Drawn.blk {w w' : World} (h : Drawn w w') {b : Nat} {cs : Array Value} {t : Nat} (hb : Blk w b cs t) : Blk w' b cs t := by
  obtain ⟨n, rfl⟩ := h; exact hb.drewN n

/-- The library's variables, as they are laid; their blocks lie below base. -/
structure Glob (base : Nat) (w : World) : Prop where
  space : Lib.TabIs Tryz.prog w "strings.asciiSpace" .u8 Lib.asciiSpaceTab
  pow : Lib.TabIs Tryz.prog w "internal/strconv.uint64pow10" .u64 Lib.pow10Tab
  syn : ∃ ev, w.cell? ⟨2, 0, none⟩ = some ev ∧ (ev = .nilIface ∨ ∃ te pe, ev = .iface te pe)
  rng : ∃ ev, w.cell? ⟨3, 0, none⟩ = some ev ∧ (ev = .nilIface ∨ ∃ te pe, ev = .iface te pe)
  b1 : 6 < base
  b2 : 8 < base
  b3 : 2 < base
  b4 : 3 < base
theorem globNamed1 : Tryz.prog.globalNamed "strings.asciiSpace" = some 6 := by kernel_rfl
theorem globNamed2 : Tryz.prog.globalNamed "internal/strconv.uint64pow10" = some 8 := by kernel_rfl
theorem tabIs_keep {w w' : World} {n : String} {k : IntKind} {zs : List Int} {g : Nat} (hn : Tryz.prog.globalNamed n = some g) (h : Lib.TabIs Tryz.prog w n k zs) (hb : w'.heap[g]? = w.heap[g]?) : Lib.TabIs Tryz.prog w' n k zs := by
  unfold Lib.TabIs at *
  rw [← h]
  simp only [World.var?, hn, Option.bind_some, hb]
theorem cell_keep {w w' : World} {g : Nat} {v : Value} (h : w.cell? ⟨g, 0, none⟩ = some v) (hb : w'.heap[g]? = w.heap[g]?) : w'.cell? ⟨g, 0, none⟩ = some v := by
  rw [← h]; simp only [World.cell?, hb]
theorem Glob.below {base B : Nat} {w w' : World} (h : Glob base w) (hb : Below B w w') (hB : base ≤ B) : Glob base w' := by
  obtain ⟨h1, h2, ⟨e3, h3, f3⟩, ⟨e4, h4, f4⟩, b1, b2, b3, b4⟩ := h
  exact ⟨tabIs_keep globNamed1 h1 (hb.block _ (by omega)), tabIs_keep globNamed2 h2 (hb.block _ (by omega)), ⟨e3, cell_keep h3 (hb.block _ (by omega)), f3⟩, ⟨e4, cell_keep h4 (hb.block _ (by omega)), f4⟩, b1, b2, b3, b4⟩
theorem Glob.keep {base : Nat} {P : Nat → Prop} {w w' : World} (h : Glob base w) (hb : Keep P w w') (hw : base ≤ w.heap.size) (hP : ∀ k, P k → base ≤ k) : Glob base w' :=
  h.below (hb.below hw hP) (Nat.le_refl _)

/-! ### fields of a place and of a Diag that were handed back -/
theorem posF0 (a b c : Value) (w : World) : (Instr.field 26 (.agg #[a, b, c]) 0).run Tryz.prog w = .ok a w := by kernel_rfl
theorem posF1 (a b c : Value) (w : World) : (Instr.field 26 (.agg #[a, b, c]) 1).run Tryz.prog w = .ok b w := by kernel_rfl
theorem posF2 (a b c : Value) (w : World) : (Instr.field 26 (.agg #[a, b, c]) 2).run Tryz.prog w = .ok c w := by kernel_rfl
/-! ### places in a text -/
abbrev Bs := List UInt8
def lineL (l : Bs) : Nat := l.count 10
def colL (l : Bs) : Nat := (l.reverse.takeWhile (· != 10)).length
theorem lineL_snoc (l : Bs) (c : UInt8) : lineL (l ++ [c]) = lineL l + if c = 10 then 1 else 0 := by
  unfold lineL; rw [List.count_append]; by_cases h : c = 10 <;> simp [h, List.count_cons]
theorem colL_snoc (l : Bs) (c : UInt8) : colL (l ++ [c]) = if c = 10 then 0 else colL l + 1 := by
  unfold colL; rw [List.reverse_append]; by_cases h : c = 10 <;> simp [h, List.takeWhile_cons]
theorem lineL_le (l : Bs) : lineL l ≤ l.length := List.count_le_length
theorem colL_le (l : Bs) : colL l ≤ l.length := by
  unfold colL; have := (List.takeWhile_sublist (l := l.reverse) (· != 10)).length_le; simpa using this
/-- The bytes of a text. -/
def bs (s : ByteArray) : Bs := s.data.toList
theorem bs_len (s : ByteArray) : (bs s).length = s.size := by simp [bs]
def lineAt (s : ByteArray) (p : Nat) : Nat := lineL ((bs s).take p)
def colAt (s : ByteArray) (p : Nat) : Nat := colL ((bs s).take p)
theorem take_snoc (s : ByteArray) (k : Nat) (h : k < s.size) : (bs s).take (k + 1) = (bs s).take k ++ [s[k]] := by
  unfold bs; rw [List.take_succ_eq_append_getElem (by simpa using h)]; rfl
theorem lineAt_succ (s : ByteArray) (k : Nat) (h : k < s.size) : lineAt s (k + 1) = lineAt s k + if s[k] = 10 then 1 else 0 := by
  unfold lineAt; rw [take_snoc s k h, lineL_snoc]
theorem colAt_succ (s : ByteArray) (k : Nat) (h : k < s.size) : colAt s (k + 1) = if s[k] = 10 then 0 else colAt s k + 1 := by
  unfold colAt; rw [take_snoc s k h, colL_snoc]
theorem lineAt_le (s : ByteArray) (k : Nat) : lineAt s k ≤ k := Nat.le_trans (lineL_le _) (List.length_take_le _ _)
theorem colAt_le (s : ByteArray) (k : Nat) : colAt s k ≤ k := Nat.le_trans (colL_le _) (List.length_take_le _ _)
/-- How many bytes at the begin are of a kind. -/
def spanLen (f : UInt8 → Bool) (l : Bs) : Nat := (l.takeWhile f).length
theorem spanLen_le (f : UInt8 → Bool) (l : Bs) : spanLen f l ≤ l.length := (List.takeWhile_sublist f).length_le
theorem spanLen_at (f : UInt8 → Bool) : ∀ (l : Bs) (k : Nat), k < spanLen f l → ∃ c, l[k]? = some c ∧ f c = true
  | [], k, h => by simp [spanLen] at h
  | a :: l, k, h => by
    unfold spanLen at h
    by_cases ha : f a = true
    · rw [List.takeWhile_cons_of_pos ha, List.length_cons] at h
      cases k with
      | zero => exact ⟨a, rfl, ha⟩
      | succ k => obtain ⟨c, h1, h2⟩ := spanLen_at f l k (by unfold spanLen; omega); exact ⟨c, by simpa using h1, h2⟩
    · rw [List.takeWhile_cons_of_neg ha] at h; simp at h
theorem spanLen_end (f : UInt8 → Bool) : ∀ (l : Bs) (c : UInt8), l[spanLen f l]? = some c → f c = false
  | [], c, h => by simp at h
  | a :: l, c, h => by
    unfold spanLen at h
    by_cases ha : f a = true
    · rw [List.takeWhile_cons_of_pos ha, List.length_cons] at h
      exact spanLen_end f l c (by simpa [spanLen] using h)
    · rw [List.takeWhile_cons_of_neg ha] at h
      simp at h; subst h; simpa using ha
/-- Of a text from a place on. -/
def spanAt (f : UInt8 → Bool) (s : ByteArray) (p : Nat) : Nat := spanLen f ((bs s).drop p)
theorem spanAt_le (f : UInt8 → Bool) (s : ByteArray) (p : Nat) (hp : p ≤ s.size) : p + spanAt f s p ≤ s.size := by
  have := spanLen_le f ((bs s).drop p); rw [List.length_drop, bs_len] at this; unfold spanAt; omega
theorem bs_get (s : ByteArray) (k : Nat) (h : k < s.size) : (bs s)[k]? = some s[k] := by
  unfold bs; rw [List.getElem?_eq_getElem (by simpa using h)]; rfl
theorem spanAt_in (f : UInt8 → Bool) (s : ByteArray) (p k : Nat) (h : k < spanAt f s p) (hk : p + k < s.size) : f s[p + k] = true := by
  obtain ⟨c, h1, h2⟩ := spanLen_at f _ k h
  rw [List.getElem?_drop, bs_get s _ hk] at h1
  injection h1 with h1; rw [h1]; exact h2
theorem spanAt_stop (f : UInt8 → Bool) (s : ByteArray) (p : Nat) (hk : p + spanAt f s p < s.size) : f s[p + spanAt f s p] = false := by
  refine spanLen_end f ((bs s).drop p) _ ?_
  rw [List.getElem?_drop]; exact bs_get s _ hk
theorem ret_int {k : IntKind} {a b : Int} (h : a = b) : Ending.returned (.int k a) = .returned (.int k b) := by rw [h]
end Go.Proofs.YtcdmkmbbliaefaaGreatDoor
