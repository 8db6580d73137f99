/- Package sink: the builder inside it: copyCheck, WriteString, Len. -/
import Derived.Test.YtgmmjhelcpgakaaGreatDoorGO
import Derived.Lib.Builder
import Derived.Lib.AppendStr
import Derived.Lib.UnsafeStr
import Derived.Laws.Externs
import Derived.BigQuiet
namespace Go.Proofs.YtgmmjhelcpgakaaGreatDoor
open Go.RowKit
set_option linter.unusedVariables false
set_option linter.unusedSimpArgs false

/-- A sink's cells: the builder's own address (or nil), its buffer, most, deep, full. -/
def snkC (p v : Value) (m : Nat) (full : Bool) : Array Value := #[p, v, .int .i64 m, .int .i64 0, .bool full]
def pOk (p : Value) (b : Nat) : Prop := p = .pointer none ∨ p = .pointer (some ⟨b, 0, none⟩)
/-- A sink with these bytes; all that it owns lies from B on. -/
structure Snk (B : Nat) (w : World) (b : Nat) (out : Bs) (m : Nat) (full : Bool) : Prop where
  base : B ≤ b
  le : out.length ≤ m
  lm : m ≤ 4398046511104
  ex : ∃ p v, pOk p b ∧ Blk w b (snkC p v m full) 116 ∧ w.ownsRow B 5 1 v out.length (Lib.byteCells out)
/-- A sink's work: nothing below B is turned, no block but its own and rows of bytes. -/
def SK (B b : Nat) (w w' : World) : Prop := Keep (B ≤ ·) w w' ∧ ∀ k cs t, k ≠ b → t ≠ 5 → Blk w k cs t → Blk w' k cs t
theorem SK.refl (B b : Nat) (w : World) : SK B b w w := ⟨Keep.refl _ _, fun _ _ _ _ _ h => h⟩
theorem SK.trans {B b : Nat} {w w1 w2 : World} (h : SK B b w w1) (h2 : SK B b w1 w2) : SK B b w w2 := ⟨h.1.trans h2.1, fun k cs t h3 h4 h5 => h2.2 k cs t h3 h4 (h.2 k cs t h3 h4 h5)⟩
theorem SK.ofF {B b : Nat} {w w' : World} (h : Keep (fun _ => False) w w') : SK B b w w' := ⟨h.mono fun _ _ h => h.elim, fun _ _ _ _ _ hb => h.blk hb fun h => h⟩
theorem SK.own {B b : Nat} {w w' : World} (h : Keep (· = b) w w') (hB : B ≤ b) : SK B b w w' := ⟨h.mono fun k _ e => by omega, fun k cs t hk _ hb => h.blk hb hk⟩
theorem Snk.lt {B : Nat} {w : World} {b : Nat} {out : Bs} {m : Nat} {full : Bool} (h : Snk B w b out m full) : b < w.heap.size := by
  obtain ⟨p, v, _, hb, _⟩ := h.ex
  exact hb.lt
theorem Snk.keep {P : Nat → Prop} {B : Nat} {w w' : World} {b : Nat} {out : Bs} {m : Nat} {full : Bool} (h : Snk B w b out m full) (hk : Keep P w w') (hP : ∀ k, P k → k < B) : Snk B w' b out m full := by
  obtain ⟨p, v, hp, h1, h2⟩ := h.ex
  exact ⟨h.base, h.le, h.lm, p, v, hp, hk.blk h1 (fun hb => by have := hP _ hb; have := h.base; omega), ownsRow_keep h2 hk (fun k hk' hp => by have := hP _ hp; have := (World.ownsRow.lt h2 k hk').1; omega)⟩
theorem Snk.keepF {B : Nat} {w w' : World} {b : Nat} {out : Bs} {m : Nat} {full : Bool} (h : Snk B w b out m full) (hk : Keep (fun _ => False) w w') : Snk B w' b out m full := h.keep hk (fun _ h => h.elim)
theorem sizeBuilder : (Tryz.prog.info? 114).map (fun i => i.size) = some 2 := by kernel_rfl
theorem liesSink : liesAt Tryz.prog Tryz.prog.depth 116 (5 / Tryz.prog.cellsOf 116) 0 114 1 = true := by kernel_rfl
theorem infoByte : (Tryz.prog.info? 5).map (fun i => (i.zero, i.size, i.bytes)) = some (some (.int .u8 0), 1, 1) := by kernel_rfl
set_option maxHeartbeats 1000000 in
set_option maxRecDepth 100000 in
theorem copy_used (b : Nat) (w : World) (h0 : w.cell? ⟨b, 0, none⟩ = some (.pointer (some ⟨b, 0, none⟩))) :
    Calls Tryz.prog 132 #[.pointer (some ⟨b, 0, none⟩)] w fun e w' => e = .returned (.tuple #[]) ∧ w' = w := by
  obtain ⟨j, hj, _⟩ := Option.map_eq_some_iff.1 sizeBuilder
  have u := Tryz.underlying111
  go_enter Tryz.func132, Tryz.ntmps132
  go_wp2_with fail
  rw [Lib.run_neq_ptr_same w _ u hj]
  go_wp2_with fail
  go_end0
  exact ⟨rfl, rfl⟩
set_option maxHeartbeats 1000000 in
set_option maxRecDepth 100000 in
theorem copy_fresh (b : Nat) (w : World) (h0 : w.cell? ⟨b, 0, none⟩ = some (.pointer none)) (hsh : w.shape? b = some (116, 5)) (hfz : w.frozen? ⟨b, 0, none⟩ = false) :
    Calls Tryz.prog 132 #[.pointer (some ⟨b, 0, none⟩)] w fun e w' => e = .returned (.tuple #[]) ∧ w' = w.setCell ⟨b, 0, none⟩ (.pointer (some ⟨b, 0, none⟩)) := by
  obtain ⟨j, hj, hjs⟩ := Option.map_eq_some_iff.1 sizeBuilder
  have u := Tryz.underlying111
  have u2 := Tryz.underlying194
  go_enter Tryz.func132, Tryz.ntmps132
  go_wp2_with fail
  rw [Lib.run_to_unsafe w ⟨b, 0, none⟩ u u2 hj (by rw [hjs]; decide) hsh (Nat.zero_lt_succ 4)]
  simp only [Result.andThen]
  rw [Oper.upon_value]
  go_wp2_with fail
  rw [run_callFunc_extern Tryz.func156 (by kernel_rfl) (by kernel_rfl) (by kernel_rfl) (e := Extern.AbiNoEscape.same) (by kernel_rfl)]
  rw [Lib.run_noEscape]
  simp only [Result.andThen]
  rw [Oper.upon_value]
  go_wp2_with fail
  rw [Lib.run_from_unsafe w ⟨b, 0, none⟩ u2 u hj hsh liesSink]
  simp only [Result.andThen]
  rw [Oper.upon_value]
  go_wp2_with fail
  go_end0
  exact ⟨rfl, rfl⟩
end Go.Proofs.YtgmmjhelcpgakaaGreatDoor
/- Package sink: copyCheck, WriteString, Len, String of the builder inside a sink. -/
namespace Go.Proofs.YtgmmjhelcpgakaaGreatDoor
open Go.RowKit
set_option linter.unusedVariables false
set_option linter.unusedSimpArgs false

/-- A sink whose builder has been used. -/
structure SnkU (B : Nat) (w : World) (b : Nat) (out : Bs) (m : Nat) (full : Bool) (v : Value) : Prop where
  blk : Blk w b (snkC (.pointer (some ⟨b, 0, none⟩)) v m full) 116
  own : w.ownsRow B 5 1 v out.length (Lib.byteCells out)
theorem snkCopy (B b : Nat) (out : Bs) (m : Nat) (full : Bool) (w : World) (h : Snk B w b out m full) :
    Calls Tryz.prog 132 #[.pointer (some ⟨b, 0, none⟩)] w fun e w' => e = .returned (.tuple #[]) ∧ (∃ v, SnkU B w' b out m full v) ∧ Keep (· = b) w w' := by
  obtain ⟨p, v, hp, hb, ho⟩ := h.ex
  rcases hp with rfl | rfl
  · refine (copy_fresh b w (hb.at_ 0 rfl) (by unfold Blk at hb; simp [World.shape?, hb, snkC]) (hb.free 0)).mono ?_
    rintro e w' ⟨rfl, rfl⟩
    exact ⟨rfl, ⟨v, hb.set 0 _, ownsRow_setCell_other ho (a := ⟨b, 0, none⟩) (by have := ownsRow_ne ho hb (by decide); intro e; exact this b e rfl) _⟩, (Keep.refl _ w).set1 0 _⟩
  · refine (copy_used b w (hb.at_ 0 rfl)).mono ?_
    rintro e w' ⟨rfl, rfl⟩
    exact ⟨rfl, ⟨v, hb, ho⟩, Keep.refl _ _⟩

set_option maxRecDepth 100000 in
set_option maxHeartbeats 4000000 in
theorem snkWrite (B b : Nat) (out : Bs) (m : Nat) (full : Bool) (s : ByteArray) (w : World) (h : Snk B w b out m full) (hl : out.length + s.size ≤ m) :
    Calls Tryz.prog 101 #[.pointer (some ⟨b, 0, none⟩), .string s] w fun e w' => e = .returned (.tuple #[.int .i64 s.size, .nilIface]) ∧ Snk B w' b (out ++ bs s) m full ∧ SK B b w w' := by
  obtain ⟨i0, hi, hz0, hz1, hz2⟩ := info_parts infoByte
  have u37 := Tryz.underlying112
  have hlm := h.lm
  have hbB := h.base
  have hsz := h.lt
  have hss : s.size = (bs s).length := by simp [bs]
  go_enter Tryz.func101, Tryz.ntmps101
  go_wp2_with (go_at_call 132; refine (snkCopy B b out m full _ h).mono ?_)
  rintro e w1 ⟨rfl, ⟨v, hbk, hown⟩, hk1⟩
  have hne := ownsRow_ne hown hbk (by decide)
  have c0 := hbk.at_ 0 (v := .pointer (some ⟨b, 0, none⟩)) rfl
  have c1 := hbk.at_ 1 (v := v) rfl
  go_wp2_with (at_builtin; refine Lib.wpList_append_own_string _ rfl _ _ 112 9 rfl B 5 i0 Tryz.underlying112 Tryz.underlying9 hi hz0 hz1 hz2 _ _ _ rfl hown s rfl ?c3 ?c4 ?c5 ?_)
  case c3 => unfold maxLen; omega
  case c4 => omega
  case c5 => have := hk1.size; omega
  intro v' w2 hown' hgrow _
  have hb2 : Blk w2 b (snkC (.pointer (some ⟨b, 0, none⟩)) v m full) 116 := (hgrow.block b hbk.lt (fun e => hne b e.symm rfl)).trans hbk
  have d0 := hb2.at_ 0 (v := .pointer (some ⟨b, 0, none⟩)) rfl
  have d1 := hb2.at_ 1 (v := v) rfl
  have f1 := hb2.free 1
  obtain ⟨ao, n', cap, rfl⟩ : ∃ ao n' cap, v' = .slice ao n' cap := by
    rcases hown'.2 with ⟨hv, _⟩ | ⟨g, cap, cur, hv, _⟩
    · exact ⟨_, _, _, hv⟩
    · exact ⟨_, _, _, hv⟩
  have hne2 := ownsRow_ne hown' hb2 (by decide)
  go_wp2_with fail
  go_ret2
  have hb3 := hb2.set 1 (.slice ao n' cap)
  have ho3 := ownsRow_setCell_other hown' (a := ⟨b, 1, none⟩) (by intro e; exact hne2 b e rfl) (.slice ao n' cap)
  refine ⟨rfl, ⟨hbB, by simp [bs] at hss ⊢; omega, hlm, _, _, .inr rfl, hb3, ?_⟩, ?_, ?_⟩
  · rw [Lib.byteCells_append, List.length_append, ← hss]; exact ho3
  · exact (((hk1.mono (Q := (B ≤ ·)) fun k _ e => by omega).grown hgrow (fun k hk _ => (World.ownsRow.lt hown k hk).1)).setCell (p := ⟨b, 1, none⟩) (fun _ => hbB) _)
  · intro k cs t hkb ht hb
    have h1 := hk1.blk hb hkb
    have h2 : Blk w2 k cs t := (hgrow.block k h1.lt (fun e => ownsRow_ne hown h1 (Ne.symm ht) k e.symm rfl)).trans h1
    exact h2.far hkb _

set_option maxRecDepth 100000 in
theorem snkLen (B b : Nat) (out : Bs) (m : Nat) (full : Bool) (w : World) (h : Snk B w b out m full) :
    Calls Tryz.prog 100 #[.pointer (some ⟨b, 0, none⟩)] w fun e w' => e = .returned (.int .i64 out.length) ∧ w' = w := by
  obtain ⟨p, v, hp, hbk, hown⟩ := h.ex
  obtain ⟨ao, cap, rfl⟩ : ∃ ao cap, v = .slice ao out.length cap := by
    rcases hown.2 with ⟨hv, h0⟩ | ⟨g, cap, cur, hv, _⟩
    · exact ⟨none, 0, by rw [hv, h0]⟩
    · exact ⟨_, _, hv⟩
  have c1 := hbk.at_ 1 (v := .slice ao out.length cap) rfl
  go_enter Tryz.func100, Tryz.ntmps100
  go_wp2_with fail
  go_ret
  exact ⟨rfl, rfl⟩

set_option maxRecDepth 100000 in
set_option maxHeartbeats 4000000 in
theorem snkStr (B b : Nat) (out : Bs) (m : Nat) (full : Bool) (w : World) (h : Snk B w b out m full) :
    Calls Tryz.prog 61 #[.pointer (some ⟨b, 0, none⟩)] w fun e w' => e = .returned (.string ⟨out.toArray⟩) ∧ Below B w w' := by
  obtain ⟨p, v, hp, hbk, hown⟩ := h.ex
  have hlm := h.lm
  have hle := h.le
  have hBw : B ≤ w.heap.size := by have := h.base; have := h.lt; omega
  rcases hown.2 with ⟨rfl, h0⟩ | ⟨g, cap, cur, rfl, hbg, hg, hnc, hcm, hcs, htake⟩
  · have : out = [] := List.eq_nil_of_length_eq_zero h0
    subst this
    have hUS : ∀ (W : World) (q : Option Addr), (Builtin.unsafeString_ #[159, 3] 9 #[.pointer q, .int .i64 0]).run Tryz.prog W = .ok (.string .empty) W := fun W q => Lib.run_unsafeString_none W _ _ _ q
    have c1 : w.drew.cell? ⟨b, 1, none⟩ = some (.slice none 0 0) := (hbk.drewN 1).at_ 1 rfl
    have hSD : (Builtin.unsafeSliceData_ #[112] 159 #[.slice none 0 0]).run Tryz.prog w.drew = .ok (.pointer none) w.drew := rfl
    go_enter Tryz.func61, Tryz.ntmps61
    go_wp2_with fail
    go_region
    all_goals (go_wp2_with fail; go_ret; exact ⟨rfl, Below.drew (Below.refl B w)⟩)
  · by_cases hl0 : out.length = 0
    · have : out = [] := List.eq_nil_of_length_eq_zero hl0
      subst this
      have hUS : ∀ (W : World) (q : Option Addr), (Builtin.unsafeString_ #[159, 3] 9 #[.pointer q, .int .i64 0]).run Tryz.prog W = .ok (.string .empty) W := fun W q => Lib.run_unsafeString_none W _ _ _ q
      have c1 : w.drew.cell? ⟨b, 1, none⟩ = some (.slice (some ⟨g, 0, none⟩) 0 cap) := (hbk.drewN 1).at_ 1 rfl
      by_cases hc0 : cap = 0
      · subst hc0
        have hSD : (Builtin.unsafeSliceData_ #[112] 159 #[.slice (some ⟨g, 0, none⟩) 0 0]).run Tryz.prog w.drew = .ok (.pointer (some ⟨w.drew.heap.size, 0, none⟩)) (w.drew.alloc (.view ⟨g, 0, none⟩ 5)) :=
          Lib.run_unsafeSliceData_zero w.drew _ _ 5 Tryz.underlying159 ⟨g, 0, none⟩ 0 (5, cur.size) (by have hg' : w.drew.heap[g]? = some (.cells cur 5 (0, 0)) := hg; simp [World.shape?, hg'])
        have c3 : (w.alloc (.view ⟨g, 0, none⟩ 5)).drew.cell? ⟨b, 1, none⟩ = some (.slice (some ⟨g, 0, none⟩) 0 0) := ((hbk.alloc _).drewN 1).at_ 1 rfl
        have c2 : (w.drew.alloc (.view ⟨g, 0, none⟩ 5)).cell? ⟨b, 1, none⟩ = some (.slice (some ⟨g, 0, none⟩) 0 0) := ((hbk.drewN 1).alloc _).at_ 1 rfl
        have c0 : w.cell? ⟨b, 1, none⟩ = some (.slice (some ⟨g, 0, none⟩) 0 0) := c1
        go_enter Tryz.func61, Tryz.ntmps61
        go_wp2_with fail
        go_region
        all_goals (go_wp2_with fail; go_ret; exact ⟨rfl, (Below.drew (Below.refl B w)).alloc hBw _⟩)
      · have hSD : (Builtin.unsafeSliceData_ #[112] 159 #[.slice (some ⟨g, 0, none⟩) 0 cap]).run Tryz.prog w.drew = .ok (.pointer (some ⟨g, 0, none⟩)) w.drew :=
          Lib.run_unsafeSliceData_row _ _ _ _ _ _ hc0
        clear hc0
        go_enter Tryz.func61, Tryz.ntmps61
        go_wp2_with fail
        go_region
        all_goals (go_wp2_with fail; go_ret; exact ⟨rfl, Below.drew (Below.refl B w)⟩)
    · have h0 : out ≠ [] := by intro e; subst e; exact hl0 rfl
      have c1 : w.drew.cell? ⟨b, 1, none⟩ = some (.slice (some ⟨g, 0, none⟩) out.length cap) := (hbk.drewN 1).at_ 1 rfl
      have hSD : (Builtin.unsafeSliceData_ #[112] 159 #[.slice (some ⟨g, 0, none⟩) out.length cap]).run Tryz.prog w.drew = .ok (.pointer (some ⟨g, 0, none⟩)) w.drew :=
        Lib.run_unsafeSliceData_row _ _ _ _ _ _ (by omega)
      have hUS : (Builtin.unsafeString_ #[159, 3] 9 #[.pointer (some ⟨g, 0, none⟩), .int .i64 out.length]).run Tryz.prog w.drew = .ok (.string ⟨out.toArray⟩) (w.drew.freeze ⟨g, 0, none⟩ out.length) := by
        refine Lib.run_unsafeString_row w.drew 159 3 9 5 Tryz.underlying159 (by kernel_rfl) g cur.size (by have hg' : w.drew.heap[g]? = some (.cells cur 5 (0, 0)) := hg; simp [World.shape?, hg']) out h0 (by omega) (by unfold maxLen at hcm; omega) ?_
        intro j x hx
        have := World.ownsRow.cells hown (g := g) rfl j (.int .u8 x.toNat) (by simp [Lib.byteCells, hx])
        exact this
      go_enter Tryz.func61, Tryz.ntmps61
      go_wp2_with fail
      go_region
      all_goals (go_wp2_with fail; go_ret; exact ⟨rfl, Lib.below_freeze (Below.drew (Below.refl B w)) (p := ⟨g, 0, none⟩) hbg _⟩)
end Go.Proofs.YtgmmjhelcpgakaaGreatDoor
/- Package sink: New, Put, String. -/
namespace Go.Proofs.YtgmmjhelcpgakaaGreatDoor
open Go.RowKit
set_option linter.unusedVariables false
set_option linter.unusedSimpArgs false

def PutP (B b m : Nat) (st : Bs × Bool) (w : World) (e : Ending) (w' : World) : Prop := e = .returned (.bool (!st.2)) ∧ Snk B w' b st.1 m st.2 ∧ SK B b w w'
theorem snkNew (m : Nat) (hm : m ≤ 4398046511104) (w : World) :
    Calls Tryz.prog 28 #[.int .i64 m] w fun e w' => e = .returned (.pointer (some ⟨w.heap.size, 0, none⟩)) ∧ Snk w.heap.size w' w.heap.size [] m false ∧ Keep (fun _ => False) w w' := by
  have h0 : (0 : Int) ≤ (m : Int) := by omega
  have hmx : max (m : Int) 0 = (m : Int) := by omega
  go_enter Tryz.func28, Tryz.ntmps28
  go_wp2_with fail
  go_ret
  refine ⟨rfl, ⟨Nat.le_refl _, Nat.zero_le _, hm, .pointer none, .slice none 0 0, .inl rfl, ?_, World.ownsRow_nil _ _ _ _⟩, (Keep.refl _ w).alloc _⟩
  exact Blk.new w _ _
theorem sumL_nil : sumL [] = 0 := rfl
theorem sumL_take (xs : List ByteArray) (k : Nat) (x : ByteArray) (hx : xs[k]? = some x) : sumL ((xs.take (k + 1)).map bs) = sumL ((xs.take k).map bs) + x.size := by
  rw [List.take_add_one, hx]
  simp [sumL, bs]
theorem sumL_take_le (xs : List ByteArray) (k : Nat) : sumL ((xs.take k).map bs) ≤ sumL (xs.map bs) := by
  have h := List.take_append_drop k xs
  have h2 : sumL (xs.map bs) = sumL ((xs.take k).map bs) + sumL ((xs.drop k).map bs) := by
    conv => lhs; rw [← h]
    rw [List.map_append]; simp only [sumL, List.map_append, List.sum_append]
  omega
set_option maxRecDepth 100000 in
set_option maxHeartbeats 4000000 in
theorem put_any (B b a c t : Nat) (cs : Array Value) (xs : List ByteArray) (out : Bs) (m : Nat) (full : Bool) (w : World) (h : Snk B w b out m full) (ha : Blk w a cs t) (ht : t ≠ 5) (hab : a ≠ b)
    (hx : ∀ (j : Nat) x, xs[j]? = some x → cs[j]? = some (.string x)) (hn : xs.length ≤ 1000000) :
    Calls Tryz.prog 55 #[.pointer (some ⟨b, 0, none⟩), .slice (some ⟨a, 0, none⟩) xs.length c] w (PutP B b m (putS m (out, full) (xs.map bs)) w) := by
  obtain ⟨p, v, hp, hbk, hown⟩ := h.ex
  have hle := h.le
  have hlm := h.lm
  have c2 := hbk.at_ 2 (v := .int .i64 m) rfl
  have c4 := hbk.at_ 4 (v := .bool full) rfl
  have HB := Lib.hid h; have HA := Lib.hid ha; have HX := Lib.hid hx
  obtain ⟨n, hN⟩ : ∃ n, n = xs.length := ⟨_, rfl⟩
  rw [← hN] at hn ⊢
  have HN := Lib.hid hN
  obtain ⟨st, hst⟩ : ∃ st, st = putS m (out, full) (xs.map bs) := ⟨_, rfl⟩
  rw [← hst]
  have HS := Lib.hid hst
  clear hst hN hx hp hown hbk
  cases full with
  | true =>
    have hs : st = (out, true) := by rw [HS.out]; unfold putS; rw [if_pos rfl]
    subst hs
    clear h ha
    go_enter Tryz.func55, Tryz.ntmps55
    go_wp2_with fail
    go_ret
    exact ⟨rfl, HB.out, SK.refl _ _ _⟩
  | false =>
    obtain ⟨ol, hol⟩ : ∃ ol, ol = out.length := ⟨_, rfl⟩
    have HC : Hid (∀ k, Calls Tryz.prog 100 #[.pointer (some ⟨b, 0, none⟩)] (w.drewN k) fun e w' => e = .returned (.int .i64 ol) ∧ w' = w.drewN k) := fun k => (by rw [hol]; exact snkLen B b out m false _ (h.keepF ((Keep.refl _ w).drewN k)))
    have HOL := Lib.hid hol
    rw [← hol] at hle
    clear h ha hol
    go_enter Tryz.func55, Tryz.ntmps55
    go_wp2_with fail
    go_quiet ((go_at_call 100; exact Calls.quiet_of_same (HC.out _)))
    obtain ⟨W0, hW0⟩ : ∃ W0, W0 = w.drewN nq := ⟨_, rfl⟩
    rw [← hW0]
    have HW0 := Lib.hid (show Keep (fun _ => False) w W0 by rw [hW0]; exact (Keep.refl _ w).drewN nq)
    clear hW0 HC c2 c4
    have HB0 := Lib.hid (HB.out.keepF HW0.out)
    have HA0 := Lib.hid (HW0.out.blk HA.out (fun h => h))
    have HSL := Lib.hid (sumL_take_le xs)
    have alt := HA0.out.lt
    go_wp2_with fail
    go_loopw [5, 29] (fun r i wr => ∃ k : Nat, k ≤ n ∧ i = .int .i64 k ∧ r = .int .i64 ((m : Int) - ol - (sumL ((xs.take k).map bs) : Nat)) ∧ Hid (sumL ((xs.take k).map bs) ≤ m - ol) ∧ wr = W0) (fun _ i _ => n - (intOf i).toNat)
    case atStart => exact ⟨0, Nat.zero_le _, rfl, by simp [sumL], Lib.hid (by simp [sumL]), rfl⟩
    case round =>
      obtain ⟨k, hk, rfl, rfl, HG, hw⟩ := hrel
      have hw2 := hw.symm
      subst hw2
      clear hw
      have hg := HG.out
      by_cases hlt : k < n
      · obtain ⟨x, hxk⟩ : ∃ x, xs[k]? = some x := ⟨_, List.getElem?_eq_getElem (by rw [← HN.out]; exact hlt)⟩
        have a0 : W0.cell? ⟨a, k, none⟩ = some (.string x) := HA0.out.at_ k (HX.out k x hxk)
        have hsum := sumL_take xs k x hxk
        have htot := HSL.out (k + 1)
        obtain ⟨sk, hsk⟩ : ∃ sk, sk = sumL ((xs.take k).map bs) := ⟨_, rfl⟩
        rw [← hsk] at hsum hg ⊢
        have HSUM := Lib.hid hsum; have HTOT := Lib.hid htot
        have hi0 : (0 : Int) ≤ (k : Int) := by omega
        have hi1 : (k : Int) < (n : Int) := by omega
        have hx63 : Hid True := Lib.hid trivial
        clear hsk hsum htot
        obtain ⟨p, v, hp, hbk, hown⟩ := HB0.out.ex
        have f4 := hbk.free 4
        have c4 := hbk.at_ 4 (v := .bool false) rfl
        have blt := hbk.lt
        have HBK := Lib.hid hbk; have HP := Lib.hid hp; have HOW := Lib.hid hown
        clear hbk hp hown
        by_cases hroom : (m : Int) - ol - sk < (x.size : Int)
        · have hs : st = (out, true) := by
            rw [HS.out]; unfold putS
            rw [if_neg (by simp), if_pos (by have := HSUM.out; have := HTOT.out; have := HOL.out; simp only; omega)]
          subst hs
          go_wp2_with fail
          go_ret
          refine ⟨rfl, ⟨HB0.out.base, HB0.out.le, hlm, p, v, HP.out, HBK.out.set 4 (.bool true), ownsRow_setCell_other HOW.out (a := ⟨b, 4, none⟩) (fun e => ownsRow_ne HOW.out HBK.out (by decide) b e rfl) _⟩, (SK.ofF HW0.out).trans (SK.own ((Keep.refl _ _).set1 4 _) HB0.out.base)⟩
        · have hroom' : decide ((m : Int) - ol - sk < (x.size : Int)) = false := by simpa using hroom
          clear hroom
          go_wp2_with fail
          have hs1 := HSUM.out
          have hr1 : ¬ ((m : Int) - ol - sk < (x.size : Int)) := of_decide_eq_false hroom'
          exact ⟨⟨k + 1, by omega, by go_num, by rw [hs1, IntWalk.wrap64_in _ (by omega)]; congr 1; omega, Lib.hid (by omega), trivial⟩, by simp [intOf]; omega⟩
      · obtain rfl : k = n := by omega
        have hall : sumL (xs.map bs) ≤ m - ol := by have := HG.out; rw [HN.out, List.take_length] at this; exact this
        have HALL := Lib.hid hall
        obtain ⟨sk, hsk⟩ : ∃ sk, sk = sumL ((xs.take k).map bs) := ⟨_, rfl⟩
        rw [← hsk]
        clear hsk
        have hs : st = (out ++ (xs.map bs).flatten, false) := by
          rw [HS.out]; unfold putS
          rw [if_neg (by simp), if_neg (by have := HOL.out; simp only; omega)]
        subst hs
        clear hg hall
        go_wp2_with fail
        go_loopw [47] (fun i w2 => ∃ j : Nat, j ≤ k ∧ i = .int .i64 j ∧ Snk B w2 b (out ++ ((xs.take j).map bs).flatten) m false ∧ SK B b W0 w2) (fun i _ => k - (intOf i).toNat)
        case atStart => exact ⟨0, Nat.zero_le _, rfl, by simpa using HB0.out, SK.refl _ _ _⟩
        case round =>
          obtain ⟨j, hj, rfl, hsn, hsk⟩ := hrel
          have HSN := Lib.hid hsn; have HSK := Lib.hid hsk
          clear hsn hsk
          by_cases hlt : j < k
          · obtain ⟨x, hxk⟩ : ∃ x, xs[j]? = some x := ⟨_, List.getElem?_eq_getElem (by rw [← HN.out]; exact hlt)⟩
            have ha2 := HSK.out.2 a cs t hab ht HA0.out
            have a0 : wr.cell? ⟨a, j, none⟩ = some (.string x) := ha2.at_ j (HX.out j x hxk)
            have alt2 := ha2.lt
            have hlen : (out ++ ((xs.take j).map bs).flatten).length + x.size ≤ m := by
              have h1 := sumL_take xs j x hxk
              have h2 := HSL.out (j + 1)
              have h3 := sumL_flatten ((xs.take j).map bs)
              have := HALL.out; have := HOL.out
              rw [List.length_append]; omega
            have hi0 : (0 : Int) ≤ (j : Int) := by omega
            have hi1 : (j : Int) < (k : Int) := by omega
            have HXK := Lib.hid hxk; have HLEN := Lib.hid hlen
            clear ha2 hxk hlen
            go_wp2_with fail
            refine (snkWrite B b _ m false x _ HSN.out HLEN.out).mono ?_
            rintro e w3 ⟨rfl, hs3, hk3⟩
            have HS3 := Lib.hid hs3; have HK3 := Lib.hid hk3; clear hs3 hk3
            go_wp2_with fail
            refine ⟨⟨j + 1, by omega, by go_num, ?_, HSK.out.trans HK3.out⟩, by simp [intOf]; omega⟩
            have := HS3.out
            rw [List.take_add_one, HXK.out, List.map_append, List.flatten_append]
            simpa using this
          · obtain rfl : j = k := by omega
            have hfin := HSN.out
            rw [HN.out, List.take_length] at hfin
            have HFIN := Lib.hid hfin
            clear hfin
            go_wp2_with fail
            go_ret
            exact ⟨rfl, HFIN.out, (SK.ofF HW0.out).trans HSK.out⟩
set_option maxRecDepth 100000 in
theorem snkString (B b : Nat) (out : Bs) (m : Nat) (full : Bool) (w : World) (h : Snk B w b out m full) :
    Calls Tryz.prog 30 #[.pointer (some ⟨b, 0, none⟩)] w fun e w' => e = .returned (.string ⟨out.toArray⟩) ∧ Keep (B ≤ ·) w w' := by
  have HB := Lib.hid h
  clear h
  go_enter Tryz.func30, Tryz.ntmps30
  go_wp2_with (go_at_call 61; refine (snkStr B b out m full _ HB.out).mono ?_; rintro e w3 ⟨rfl, hk3⟩)
  go_ret
  exact ⟨rfl, Keep.of_below' hk3⟩
end Go.Proofs.YtgmmjhelcpgakaaGreatDoor
