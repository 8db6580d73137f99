/- Package toks, the reader of tokens: its block; Look, OK, Fail, Wrong. -/
import Derived.Test.YtgmmjhelcpgakaaGreatDoorGD
import Derived.Test.YtgmmjhelcpgakaaGreatDoorGL
import Derived.Test.YtgmmjhelcpgakaaGreatDoorGK
import Derived.RegionTactic
import Derived.StillTailTactics
import Derived.Outline
namespace Go.Proofs.YtgmmjhelcpgakaaGreatDoor
open Go.RowKit
set_option linter.unusedVariables false
set_option linter.unusedSimpArgs false

/-- A row of tokens, to be read. -/
def TokR (w : World) (g : Nat) (l : List TokL) : Prop := ∀ (i : Nat) (t : TokL), l[i]? = some t → ∀ j, j < 7 → w.cell? ⟨g, i * 7 + j, none⟩ = (tokC t)[j]?
theorem TokR.of_own {w : World} {base g c : Nat} {l : List TokL} (h : OwnToks w base (.slice (some ⟨g, 0, none⟩) l.length c) l) : TokR w g l := fun i t ht j hj => h.cell i t ht j hj
theorem TokR.keep {P : Nat → Prop} {w w' : World} {g : Nat} {l : List TokL} (h : TokR w g l) (hk : Keep P w w') (hp : ¬ P g) : TokR w' g l := by
  intro i t ht j hj
  have h1 := h i t ht j hj
  obtain ⟨v, hv⟩ : ∃ v, (tokC t)[j]? = some v := ⟨_, List.getElem?_eq_getElem (by show j < 7; exact hj)⟩
  rw [hv] at h1 ⊢
  exact hk.cell h1 hp
def rdC (g c n : Nat) (st : RS) : Array Value := #[.slice (some ⟨g, 0, none⟩) n c, .int .i64 st.at_, .int .i64 st.code, .int .i64 st.pos.1, .int .i64 st.pos.2.1, .int .i64 st.pos.2.2]
/-- The reader, as it stands. -/
structure Rdr (w : World) (b g c : Nat) (l : List TokL) (st : RS) : Prop where
  blk : Blk w b (rdC g c l.length st) 59
  toks : TokR w g l
  ne : g ≠ b
  pos : 0 < l.length
  big : l.length ≤ 1000000
  at_ : st.at_ ≤ l.length
theorem Rdr.keep {P : Nat → Prop} {w w' : World} {b g c : Nat} {l : List TokL} {st : RS} (h : Rdr w b g c l st) (hk : Keep P w w') (hb : ¬ P b) (hg : ¬ P g) : Rdr w' b g c l st := ⟨hk.blk h.blk hb, h.toks.keep hk hg, h.ne, h.pos, h.big, h.at_⟩
theorem Rdr.keepF {w w' : World} {b g c : Nat} {l : List TokL} {st : RS} (h : Rdr w b g c l st) (hk : Keep (fun _ => False) w w') : Rdr w' b g c l st := h.keep hk (fun h => h) (fun h => h)
theorem Rdr.glt {w : World} {b g c : Nat} {l : List TokL} {st : RS} (h : Rdr w b g c l st) : g < w.heap.size := by
  obtain ⟨t, ht⟩ : ∃ t, l[0]? = some t := ⟨_, List.getElem?_eq_getElem h.pos⟩
  have k := h.toks 0 t ht 0 (by decide)
  exact World.block_lt_of_cell? w ⟨g, 0 * 7 + 0, none⟩ (u := .int .i64 t.kind) (by rw [k]; rfl)
def tokV (t : TokL) : Value := .agg #[.int .i64 t.kind, .string t.text, .int .i64 t.n, .bool t.same, .int .i64 t.pos.1, .int .i64 t.pos.2.1, .int .i64 t.pos.2.2]
theorem Rdr.all6 {w : World} {b g c : Nat} {l : List TokL} {st : RS} (h : Rdr w b g c l st) : w.cell? ⟨b, 0, none⟩ = some (.slice (some ⟨g, 0, none⟩) l.length c) ∧ w.cell? ⟨b, 1, none⟩ = some (.int .i64 st.at_) ∧ w.cell? ⟨b, 2, none⟩ = some (.int .i64 st.code) ∧ w.cell? ⟨b, 3, none⟩ = some (.int .i64 st.pos.1) ∧ w.cell? ⟨b, 4, none⟩ = some (.int .i64 st.pos.2.1) ∧ w.cell? ⟨b, 5, none⟩ = some (.int .i64 st.pos.2.2) :=
  ⟨h.blk.at_ 0 rfl, h.blk.at_ 1 rfl, h.blk.at_ 2 rfl, h.blk.at_ 3 rfl, h.blk.at_ 4 rfl, h.blk.at_ 5 rfl⟩

set_option maxRecDepth 100000 in
set_option maxHeartbeats 1000000 in
theorem look_any (b g c : Nat) (l : List TokL) (st : RS) (n : Nat) (hn : n ≤ 1000) (w : World) (h : Rdr w b g c l st) :
    Calls Tryz.prog 49 #[.pointer (some ⟨b, 0, none⟩), .int .i64 n] w fun e w' => e = .returned (.agg #[.int .i64 (tk l (st.at_ + n)).kind, .string (tk l (st.at_ + n)).text, .int .i64 (tk l (st.at_ + n)).n, .bool (tk l (st.at_ + n)).same, .int .i64 (tk l (st.at_ + n)).pos.1, .int .i64 (tk l (st.at_ + n)).pos.2.1, .int .i64 (tk l (st.at_ + n)).pos.2.2]) ∧ Keep (fun _ => False) w w' := by
  obtain ⟨c0, c1, _⟩ := h.all6
  have hbig := h.big
  have hpos := h.pos
  have hat := h.at_
  have hlt := h.blk.lt
  have hu26 := Tryz.underlying28
  have hu38 := Tryz.underlying50
  obtain ⟨m, hm⟩ : ∃ m, m = st.at_ + n := ⟨_, rfl⟩
  have HA := Lib.hid (show (st.at_ : Int) + (n : Int) = (m : Int) by omega)
  have hs : IntKind.i64.wrap ((st.at_ : Int) + (n : Int)) = (m : Int) := by rw [IntWalk.i64_in _ (by omega)]; exact HA.out
  rw [← hm]
  have HK := Lib.hid h.toks
  by_cases hin : m < l.length
  · obtain ⟨t, ht⟩ : ∃ t, l[m]? = some t := ⟨_, List.getElem?_eq_getElem hin⟩
    rw [tk_in ht]
    have k0 := h.toks m t ht 0 (by decide)
    have k1 := h.toks m t ht 1 (by decide)
    have k2 := h.toks m t ht 2 (by decide)
    have k3 := h.toks m t ht 3 (by decide)
    have k4 := h.toks m t ht 4 (by decide)
    have k5 := h.toks m t ht 5 (by decide)
    have k6 := h.toks m t ht 6 (by decide)
    simp only [tokC, List.getElem?_cons_succ, List.getElem?_cons_zero, Nat.add_zero] at k0 k1 k2 k3 k4 k5 k6
    have hgl : g < w.heap.size := World.block_lt_of_cell? w _ k0
    have hj0 : (0 : Int) ≤ (m : Int) := by omega
    have hj1 : (m : Int) < (l.length : Int) := by omega
    have ht0 : decide (0 ≤ (m : Int)) = true := by simp
    have ht1 : decide (m < l.length) = true := by simpa using hin
    have HT := Lib.hid ht
    clear hm ht
    go_enter Tryz.func49, Tryz.ntmps49
    go_wp2_with fail
    refine bodyPost_ret (v := tokV t) (by simp [tokV, results, Tryz.results49, go_sem]) rfl ⟨rfl, ?_⟩
    (repeat (first | exact Keep.refl _ _ | assumption | (refine Keep.setCell ?_ (fun h => absurd h (by first | (simp; done) | (simp; omega) | omega)) _) | refine Keep.alloc ?_ _ | refine Keep.drew ?_ | refine Keep.drewN ?_ _))
  · have hz : tk l m = ⟨0, eS, 0, false, lastPos l⟩ := by unfold tk; rw [List.getElem?_eq_none (by omega)]
    obtain ⟨t, ht⟩ : ∃ t, l[l.length - 1]? = some t := ⟨_, List.getElem?_eq_getElem (by omega)⟩
    have hlp : lastPos l = t.pos := by unfold lastPos; rw [List.getLast?_eq_getElem?, ht]
    rw [hz, hlp]
    have k0 := h.toks _ t ht 0 (by decide)
    have k4 := h.toks _ t ht 4 (by decide)
    have k5 := h.toks _ t ht 5 (by decide)
    have k6 := h.toks _ t ht 6 (by decide)
    simp only [tokC, List.getElem?_cons_succ, List.getElem?_cons_zero, Nat.add_zero] at k0 k4 k5 k6
    have hgl : g < w.heap.size := World.block_lt_of_cell? w _ k0
    have ht0 : decide (0 ≤ (m : Int)) = true := by simp
    have ht1 : decide (m < l.length) = false := by simpa using hin
    have ht2 : ((l.length : Int) == 0) = false := by rw [beq_eq_false_iff_ne]; omega
    have hw : IntKind.i64.wrap ((l.length : Int) - 1) = ((l.length - 1 : Nat) : Int) := by rw [IntWalk.i64_in _ (by omega)]; omega
    have hj0 : (0 : Int) ≤ ((l.length - 1 : Nat) : Int) := by omega
    have hj1 : ((l.length - 1 : Nat) : Int) < (l.length : Int) := Int.ofNat_lt.2 (Nat.sub_lt hpos (by decide))
    clear hm ht hz hlp hin
    go_enter Tryz.func49, Tryz.ntmps49
    go_wp2_with fail
    go_region
    go_wp2_with fail
    refine bodyPost_ret (v := tokV ⟨0, eS, 0, false, t.pos⟩) (by simp [tokV, results, Tryz.results49, go_sem]) rfl ⟨rfl, ?_⟩
    (repeat (first | exact Keep.refl _ _ | assumption | (refine Keep.setCell ?_ (fun h => absurd h (by first | (simp; done) | (simp; omega) | omega)) _) | refine Keep.alloc ?_ _ | refine Keep.drew ?_ | refine Keep.drewN ?_ _))

set_option maxHeartbeats 1000000 in
theorem rok_any (b g c : Nat) (l : List TokL) (st : RS) (w : World) (h : Rdr w b g c l st) :
    Calls Tryz.prog 50 #[.pointer (some ⟨b, 0, none⟩)] w fun e w' => e = .returned (.bool (decide (st.code = 0))) ∧ w' = w := by
  obtain ⟨c0, c1, c2, _⟩ := h.all6
  have hbe : ((st.code : Int) == 0) = decide (st.code = 0) := by rw [Bool.eq_iff_iff]; simp
  go_enter Tryz.func50, Tryz.ntmps50
  go_wp2_with fail
  go_ret
  exact ⟨rfl, rfl⟩
/-- The reader that tells that something is wrong. -/
theorem Rdr.fail {w w1 : World} {b g c : Nat} {l : List TokL} {st : RS} (h : Rdr w1 b g c l st) (k : Nat) (p : Pos3) :
    Rdr ((((w1.setCell ⟨b, 2, none⟩ (.int .i64 k)).setCell ⟨b, 3, none⟩ (.int .i64 p.1)).setCell ⟨b, 4, none⟩ (.int .i64 p.2.1)).setCell ⟨b, 5, none⟩ (.int .i64 p.2.2)) b g c l ⟨st.at_, k, p⟩ := by
  have hb := (((h.blk.set 2 (.int .i64 k)).set 3 (.int .i64 p.1)).set 4 (.int .i64 p.2.1)).set 5 (.int .i64 p.2.2)
  refine ⟨?_, ?_, h.ne, h.pos, h.big, h.at_⟩
  · simpa [rdC] using hb
  · refine h.toks.keep (P := (· = b)) ?_ h.ne
    exact ((((Keep.refl _ _).set1 2 _).set1 3 _).set1 4 _).set1 5 _
set_option maxRecDepth 100000 in
set_option maxHeartbeats 1000000 in
theorem fail_any (b g c : Nat) (l : List TokL) (st : RS) (k : Nat) (hk : k ≠ 0) (p : Pos3) (w : World) (h : Rdr w b g c l st) :
    Calls Tryz.prog 51 #[.pointer (some ⟨b, 0, none⟩), .int .i64 k, .agg #[.int .i64 p.1, .int .i64 p.2.1, .int .i64 p.2.2]] w fun e w' => e = .returned (.tuple #[]) ∧ Rdr w' b g c l (failP st k p) ∧ Keep (· = b) w w' := by
  have hu26 := Tryz.underlying28
  have hu28 := Tryz.underlying30
  obtain ⟨W, hW⟩ : ∃ W, W = w.alloc (.cells #[.int .i64 p.1, .int .i64 p.2.1, .int .i64 p.2.2] 28) := ⟨_, rfl⟩
  have hR : Rdr W b g c l st := by rw [hW]; exact h.keepF ((Keep.refl _ w).alloc _)
  have HKW := Lib.hid (show Keep (· = b) w W by rw [hW]; exact (Keep.refl _ w).alloc _)
  have HP := Lib.hid (show Blk W w.heap.size #[.int .i64 p.1, .int .i64 p.2.1, .int .i64 p.2.2] 28 by rw [hW]; exact Blk.new _ _ _)
  have HW := Lib.hid hW
  have HR := Lib.hid hR
  clear hW hR
  have ok := rok_any b g c l st W HR.out
  by_cases h0 : st.code = 0
  · have hd : decide (st.code = 0) = true := by simpa using h0
    rw [hd] at ok
    have HO := Lib.hid ok; clear ok hd
    have e : failP st k p = ⟨st.at_, k, p⟩ := by unfold failP; rw [if_pos h0]
    rw [e]
    have HF := Lib.hid (Rdr.fail (w := w) HR.out k p)
    have a3 := HP.out.all3
    have a6 := HR.out.all6
    have f2 := HR.out.blk.free 2
    have f3 := HR.out.blk.free 3
    have f4 := HR.out.blk.free 4
    have f5 := HR.out.blk.free 5
    clear e h0
    go_enter Tryz.func51, Tryz.ntmps51
    go_wp2_with fail
    rw [← HW.out]
    refine HO.out.mono ?_
    rintro e w1 ⟨rfl, rfl⟩
    go_wp2_with fail
    go_end0
    exact ⟨rfl, HF.out, (((HKW.out.set1 2 _).set1 3 _).set1 4 _).set1 5 _⟩
  · have hd : decide (st.code = 0) = false := by simpa using h0
    rw [hd] at ok
    have HO := Lib.hid ok; clear ok hd
    have e : failP st k p = st := by unfold failP; rw [if_neg h0]
    rw [e]
    clear e h0
    go_enter Tryz.func51, Tryz.ntmps51
    go_wp2_with fail
    rw [← HW.out]
    refine HO.out.mono ?_
    rintro e w1 ⟨rfl, rfl⟩
    go_wp2_with fail
    go_end0
    exact ⟨rfl, HR.out, HKW.out⟩
end Go.Proofs.YtgmmjhelcpgakaaGreatDoor
/- Package toks: Wrong, Is, Take, Of, Must, Name; slices.Contains. -/
namespace Go.Proofs.YtgmmjhelcpgakaaGreatDoor
open Go.RowKit
set_option linter.unusedVariables false
set_option linter.unusedSimpArgs false

/-- A row of texts. -/
def TextR (w : World) (g : Nat) (ts : List ByteArray) : Prop := ∀ j, j < ts.length → w.cell? ⟨g, j, none⟩ = some (.string (ts.getD j eS))
/-- The walk's own test of two texts. -/
theorem beq_str (x y : ByteArray) : (x.toList == y.toList) = decide (x = y) := by
  rw [Bool.eq_iff_iff, beq_iff_eq, decide_eq_true_eq, ByteArray.toList_eq, ByteArray.toList_eq]
  constructor
  · intro h; exact byteArray_ext h
  · rintro rfl; rfl
def IdxPost (w : World) (b : Bool) (e : Ending) (w' : World) : Prop := ∃ i : Int, -1 ≤ i ∧ e = .returned (.int .i64 i) ∧ decide (0 ≤ i) = b ∧ w' = w
theorem any_take (x : ByteArray) (ts : List ByteArray) (k : Nat) (h : (ts.take k).any (fun s => decide (x = s)) = false) (hk : k < ts.length) (hx : x ≠ ts.getD k eS) : (ts.take (k + 1)).any (fun s => decide (x = s)) = false := by
  rw [List.take_succ_eq_append_getElem hk, List.any_append, h]
  rw [List.getD_eq_getElem?_getD, List.getElem?_eq_getElem hk] at hx
  simpa using hx
theorem any_at (x : ByteArray) (ts : List ByteArray) (k : Nat) (hk : k < ts.length) (hx : x = ts.getD k eS) : ts.any (fun s => decide (x = s)) = true := by
  rw [List.any_eq_true]
  refine ⟨ts[k], List.getElem_mem _, ?_⟩
  rw [List.getD_eq_getElem?_getD, List.getElem?_eq_getElem hk] at hx
  simpa using hx
set_option maxHeartbeats 1000000 in
theorem index_any (g n c : Nat) (ts : List ByteArray) (x : ByteArray) (w : World) (hr : TextR w g ts) (hn : n = ts.length) (hb : n ≤ 1000000) :
    Calls Tryz.prog 181 #[.slice (some ⟨g, 0, none⟩) n c, .string x] w (IdxPost w (ts.any fun s => decide (x = s))) := by
  have HN := Lib.hid hn; clear hn
  obtain ⟨R, hR⟩ : ∃ R, R = ts.any fun s => decide (x = s) := ⟨_, rfl⟩
  rw [← hR]
  have HR := Lib.hid hR; clear hR
  have HC := Lib.hid hr; clear hr
  go_enter Tryz.func181, Tryz.ntmps181
  go_wp2_with fail
  go_loop [8] (fun i => ∃ k : Nat, k ≤ n ∧ i = .int .i64 k ∧ Hid ((ts.take k).any (fun s => decide (x = s)) = false)) (fun i => n - (intOf i).toNat)
  case atStart => exact ⟨0, Nat.zero_le _, rfl, rfl⟩
  case round =>
    obtain ⟨k, hk, rfl, HG⟩ := hrel
    by_cases hlt : k < n
    · have hkl : k < ts.length := by rw [← HN.out]; exact hlt
      have hcell := HC.out k hkl
      obtain ⟨y, hy⟩ : ∃ y, y = ts.getD k eS := ⟨_, rfl⟩
      rw [← hy] at hcell
      have HY := Lib.hid hy; clear hy
      have hi0 : (0 : Int) ≤ (k : Int) := by omega
      have hi1 : (k : Int) < (n : Int) := by omega
      by_cases hxy : x = y
      · have HX := Lib.hid hxy
        subst hxy
        go_wp2_with fail
        go_ret
        exact ⟨k, by omega, rfl, by rw [HR.out, any_at x ts k hkl HY.out]; simp, rfl⟩
      · have ht : (x.toList == y.toList) = false := by rw [beq_str]; simpa using hxy
        have HX := Lib.hid hxy; clear hxy
        go_wp2_with fail
        go_round
        case rel => exact ⟨k + 1, by omega, by go_num, any_take x ts k HG.out hkl (by rw [← HY.out]; exact HX.out)⟩
        case measure => simp [intOf]; omega
    · obtain rfl : k = n := by omega
      go_wp2_with fail
      go_ret
      refine ⟨-1, by omega, rfl, ?_, rfl⟩
      have := HG.out
      rw [HN.out, List.take_length] at this
      rw [HR.out, this]; rfl
theorem contains_any (g n c : Nat) (ts : List ByteArray) (x : ByteArray) (w : World) (hr : TextR w g ts) (hn : n = ts.length) (hb : n ≤ 1000000) :
    Calls Tryz.prog 147 #[.slice (some ⟨g, 0, none⟩) n c, .string x] w fun e w' => e = .returned (.bool (ts.any fun s => decide (x = s))) ∧ w' = w := by
  have H := Lib.hid (index_any g n c ts x w hr hn hb)
  clear hr hn
  go_enter Tryz.func147, Tryz.ntmps147
  go_wp2_with fail
  refine H.out.mono ?_
  rintro e w1 ⟨i, hi, rfl, hb, rfl⟩
  have HB := Lib.hid hb; clear hb
  go_wp2_with fail
  go_ret
  exact ⟨by show Ending.returned (.bool (decide (0 ≤ i))) = _; rw [HB.out], rfl⟩
end Go.Proofs.YtgmmjhelcpgakaaGreatDoor
/- Package toks: Is, Take, Wrong, Of, Must of one text. -/
namespace Go.Proofs.YtgmmjhelcpgakaaGreatDoor
open Go.RowKit
set_option linter.unusedVariables false
set_option linter.unusedSimpArgs false

theorem look0_any (b g c : Nat) (l : List TokL) (st : RS) (w : World) (h : Rdr w b g c l st) (t : TokL) (ht : t = tk l st.at_) :
    Calls Tryz.prog 49 #[.pointer (some ⟨b, 0, none⟩), .int .i64 0] w fun e w' => e = .returned (.agg #[.int .i64 t.kind, .string t.text, .int .i64 t.n, .bool t.same, .int .i64 t.pos.1, .int .i64 t.pos.2.1, .int .i64 t.pos.2.2]) ∧ Keep (fun _ => False) w w' := by
  subst ht
  exact look_any b g c l st 0 (by omega) w h
theorem TextR.keep {P : Nat → Prop} {w w' : World} {g : Nat} {ts : List ByteArray} (h : TextR w g ts) (hk : Keep P w w') (hp : ¬ P g) : TextR w' g ts := fun j hj => hk.cell (h j hj) hp
def tokA (t : TokL) : Array Value := #[.int .i64 t.kind, .string t.text, .int .i64 t.n, .bool t.same, .int .i64 t.pos.1, .int .i64 t.pos.2.1, .int .i64 t.pos.2.2]
set_option maxRecDepth 100000 in
set_option maxHeartbeats 2000000 in
theorem is_any (b g c : Nat) (l : List TokL) (st : RS) (gt n ct : Nat) (ts : List ByteArray) (w : World) (h : Rdr w b g c l st) (hr : TextR w gt ts) (hn : n = ts.length) (hb : n ≤ 1000000) :
    Calls Tryz.prog 125 #[.pointer (some ⟨b, 0, none⟩), .slice (some ⟨gt, 0, none⟩) n ct] w fun e w' => e = .returned (.bool (isP l st ts)) ∧ Keep (fun _ => False) w w' := by
  have hu26 := Tryz.underlying28
  have hu38 := Tryz.underlying50
  obtain ⟨t, ht⟩ : ∃ t, t = tk l st.at_ := ⟨_, rfl⟩
  have HL := Lib.hid (look0_any b g c l st w h t ht)
  obtain ⟨R, hR⟩ : ∃ R, R = isP l st ts := ⟨_, rfl⟩
  rw [← hR]
  unfold isP at hR
  rw [← ht] at hR
  have HOK : Hid (∀ W, Keep (fun _ => False) w W → Calls Tryz.prog 50 #[.pointer (some ⟨b, 0, none⟩)] W fun e w' => e = .returned (.bool (decide (st.code = 0))) ∧ w' = W) := fun W hk => rok_any b g c l st W (h.keepF hk)
  have HCO : Hid (∀ W, Keep (fun _ => False) w W → Calls Tryz.prog 147 #[.slice (some ⟨gt, 0, none⟩) n ct, .string t.text] W fun e w' => e = .returned (.bool (ts.any fun s => decide (t.text = s))) ∧ w' = W) := fun W hk => contains_any gt n ct ts t.text W (hr.keep hk (fun h => h)) hn hb
  have e5 : ((t.kind : Int) == 5) = (t.kind == 5) := by rw [Bool.eq_iff_iff]; simp; omega
  have e2 : ((t.kind : Int) == 2) = (t.kind == 2) := by rw [Bool.eq_iff_iff]; simp; omega
  obtain ⟨k5, hk5⟩ : ∃ k5, k5 = (t.kind == 5) := ⟨_, rfl⟩
  obtain ⟨k2, hk2⟩ : ∃ k2, k2 = (t.kind == 2) := ⟨_, rfl⟩
  obtain ⟨ok, hok⟩ : ∃ ok, ok = decide (st.code = 0) := ⟨_, rfl⟩
  obtain ⟨an, han⟩ : ∃ an, an = ts.any fun s => decide (t.text = s) := ⟨_, rfl⟩
  have hcode : (st.code == 0) = decide (st.code = 0) := rfl
  rw [hcode, ← hok, ← hk5, ← hk2, ← han] at hR
  rw [← hok] at HOK
  rw [← han] at HCO
  rw [← hk5] at e5
  rw [← hk2] at e2
  have HR := Lib.hid hR
  clear hR hk5 hk2 hok han ht hr hn hb h hcode
  go_enter Tryz.func125, Tryz.ntmps125
  go_wp2_with fail
  refine HL.out.mono ?_
  rintro e w1 ⟨rfl, hk1⟩
  go_wp2_with fail
  obtain ⟨W, hWW⟩ : ∃ W, W = w1.alloc (.cells #[.int .i64 t.kind, .string t.text, .int .i64 t.n, .bool t.same, .int .i64 t.pos.1, .int .i64 t.pos.2.1, .int .i64 t.pos.2.2] 50) := ⟨_, rfl⟩
  rw [← hWW]
  have HBW := Lib.hid (show Blk W w1.heap.size #[.int .i64 t.kind, .string t.text, .int .i64 t.n, .bool t.same, .int .i64 t.pos.1, .int .i64 t.pos.2.1, .int .i64 t.pos.2.2] 50 by rw [hWW]; exact Blk.new _ _ _)
  have HAW := Lib.hid (show Keep (fun _ => False) w1 W by rw [hWW]; exact (Keep.refl _ _).alloc _)
  have HZW := Lib.hid (show W.heap.size = w1.heap.size + 1 by rw [hWW]; simp)
  clear hWW
  have HK1 := Lib.hid (hk1.trans HAW.out)
  refine (HOK.out _ HK1.out).mono ?_
  rintro e w2 ⟨rfl, rfl⟩
  have a7 := HBW.out.all7
  cases ok
  · go_wp2_with fail
    go_ret
    exact ⟨by rw [HR.out]; rfl, HK1.out⟩
  · cases k5
    · cases k2
      · go_wp2_with fail
        go_ret
        exact ⟨by rw [HR.out]; rfl, HK1.out⟩
      · go_wp2_with fail
        refine (HCO.out _ HK1.out).mono ?_
        rintro e w2 ⟨rfl, rfl⟩
        go_wp2_with fail
        go_ret
        exact ⟨by rw [HR.out]; rfl, HK1.out⟩
    · go_wp2_with fail
      refine (HCO.out _ HK1.out).mono ?_
      rintro e w2 ⟨rfl, rfl⟩
      go_wp2_with fail
      go_ret
      exact ⟨by rw [HR.out]; rfl, HK1.out⟩

theorem isP_in {l : List TokL} {st : RS} {ts : List ByteArray} (h : isP l st ts = true) : st.at_ < l.length ∧ st.code = 0 := by
  unfold isP at h
  simp only [Bool.and_eq_true, Bool.or_eq_true, beq_iff_eq] at h
  exact ⟨tk_kind_in (by omega), h.1⟩
theorem isOf_in {l : List TokL} {st : RS} {k : Nat} (hk : k ≠ 0) (h : isOf l st k = true) : st.at_ < l.length ∧ st.code = 0 := by
  unfold isOf at h
  simp only [Bool.and_eq_true, beq_iff_eq] at h
  exact ⟨tk_kind_in (by omega), h.1⟩
theorem Rdr.up {w : World} {b g c : Nat} {l : List TokL} {st : RS} (h : Rdr w b g c l st) (ha : st.at_ < l.length) : Rdr (w.setCell ⟨b, 1, none⟩ (.int .i64 ((st.at_ : Int) + 1))) b g c l st.up := by
  have hb := h.blk.set 1 (.int .i64 ((st.at_ : Int) + 1))
  refine ⟨?_, ?_, h.ne, h.pos, h.big, ?_⟩
  · simpa [rdC, RS.up] using hb
  · exact h.toks.keep (P := (· = b)) ((Keep.refl _ _).set1 1 _) h.ne
  · show st.at_ + 1 ≤ l.length; omega
set_option maxRecDepth 100000 in
set_option maxHeartbeats 2000000 in
theorem take_any (b g c : Nat) (l : List TokL) (st : RS) (gt n ct : Nat) (ts : List ByteArray) (w : World) (h : Rdr w b g c l st) (hr : TextR w gt ts) (hn : n = ts.length) (hb : n ≤ 1000000) :
    Calls Tryz.prog 89 #[.pointer (some ⟨b, 0, none⟩), .slice (some ⟨gt, 0, none⟩) n ct] w fun e w' => e = .returned (.tuple #[.string (takeT l st ts), .bool (isP l st ts)]) ∧ Rdr w' b g c l (takeS l st ts) ∧ Keep (· = b) w w' := by
  have hu26 := Tryz.underlying28
  have hu38 := Tryz.underlying50
  have HI := is_any b g c l st gt n ct ts w h hr hn hb
  unfold takeT takeS
  cases hp : isP l st ts with
  | false =>
    rw [hp] at HI
    have HI := Lib.hid HI
    have HH := Lib.hid h
    clear hp hr hn hb h
    go_enter Tryz.func89, Tryz.ntmps89
    go_wp2_with fail
    refine HI.out.mono ?_
    rintro e w1 ⟨rfl, hk1⟩
    go_wp2_with fail
    go_ret2
    exact ⟨rfl, HH.out.keepF hk1, hk1.mono (fun _ _ h => h.elim)⟩
  | true =>
    rw [hp] at HI
    rw [if_pos rfl, if_pos rfl]
    obtain ⟨hat, _⟩ := isP_in hp
    have hbig := h.big
    obtain ⟨t, ht⟩ : ∃ t, t = tk l st.at_ := ⟨_, rfl⟩
    rw [← ht]
    have HI := Lib.hid HI
    have HL : Hid (∀ W, Keep (fun _ => False) w W → Calls Tryz.prog 49 #[.pointer (some ⟨b, 0, none⟩), .int .i64 0] W fun e w' => e = .returned (.agg #[.int .i64 t.kind, .string t.text, .int .i64 t.n, .bool t.same, .int .i64 t.pos.1, .int .i64 t.pos.2.1, .int .i64 t.pos.2.2]) ∧ Keep (fun _ => False) W w') := fun W hk => look0_any b g c l st W (h.keepF hk) t ht
    have HH := Lib.hid h
    clear hp hr hn hb h ht
    go_enter Tryz.func89, Tryz.ntmps89
    go_wp2_with fail
    refine HI.out.mono ?_
    rintro e w1 ⟨rfl, hk1⟩
    have HK1 := Lib.hid hk1; clear hk1
    go_wp2_with fail
    refine (HL.out _ HK1.out).mono ?_
    rintro e w2 ⟨rfl, hk2⟩
    have HR2 := HH.out.keepF (HK1.out.trans hk2)
    have a6 := HR2.all6
    have f1 := HR2.blk.free 1
    have hlt := HR2.blk.lt
    have HRW := Lib.hid (Rdr.up HR2 hat)
    have HKW := Lib.hid ((HK1.out.trans hk2).mono (Q := (· = b)) (fun _ _ h => h.elim))
    clear hk2
    go_wp2_with fail
    go_ret2
    exact ⟨rfl, HRW.out.keepF ((Keep.refl _ _).alloc _), (HKW.out.set1 1 _).alloc _⟩

theorem toks_kind6 (t : TokL) : ((t.kind : Int) == 6) = decide (t.kind = 6) := by rw [Bool.eq_iff_iff]; simp; omega
set_option maxRecDepth 100000 in
set_option maxHeartbeats 2000000 in
theorem wrong_any (b g c : Nat) (l : List TokL) (st : RS) (w : World) (h : Rdr w b g c l st) :
    Calls Tryz.prog 22 #[.pointer (some ⟨b, 0, none⟩)] w fun e w' => e = .returned (.tuple #[]) ∧ Rdr w' b g c l (wrongP l st) ∧ Keep (· = b) w w' := by
  have hu26 := Tryz.underlying28
  have hu38 := Tryz.underlying50
  obtain ⟨t, ht⟩ : ∃ t, t = tk l st.at_ := ⟨_, rfl⟩
  unfold wrongP
  rw [← ht]
  have HL := Lib.hid (look0_any b g c l st w h t ht)
  have HF : Hid (∀ (k : Nat) W, k ≠ 0 → Keep (fun _ => False) w W → Calls Tryz.prog 51 #[.pointer (some ⟨b, 0, none⟩), .int .i64 k, .agg #[.int .i64 t.pos.1, .int .i64 t.pos.2.1, .int .i64 t.pos.2.2]] W fun e w' => e = .returned (.tuple #[]) ∧ Rdr w' b g c l (failP st k t.pos) ∧ Keep (· = b) W w') := fun k W hk hw => fail_any b g c l st k hk t.pos W (h.keepF hw)
  have e6 := toks_kind6 t
  clear h ht
  by_cases h6 : t.kind = 6
  · rw [decide_eq_true h6] at e6
    rw [if_pos h6]
    have H6 := Lib.hid h6; clear h6
    go_enter Tryz.func22, Tryz.ntmps22
    go_wp2_with fail
    refine HL.out.mono ?_
    rintro e w1 ⟨rfl, hk1⟩
    go_wp2_with fail
    refine (HF.out 9 _ (by decide) (hk1.alloc _)).mono ?_
    rintro e w2 ⟨rfl, hr2, hk2⟩
    go_wp2_with fail
    go_end0
    exact ⟨rfl, hr2, ((hk1.alloc _).mono (fun _ _ h => h.elim)).trans hk2⟩
  · rw [decide_eq_false h6] at e6
    rw [if_neg h6]
    have H6 := Lib.hid h6; clear h6
    go_enter Tryz.func22, Tryz.ntmps22
    go_wp2_with fail
    refine HL.out.mono ?_
    rintro e w1 ⟨rfl, hk1⟩
    go_wp2_with fail
    refine (HF.out 10 _ (by decide) (hk1.alloc _)).mono ?_
    rintro e w2 ⟨rfl, hr2, hk2⟩
    go_wp2_with fail
    go_end0
    exact ⟨rfl, hr2, ((hk1.alloc _).mono (fun _ _ h => h.elim)).trans hk2⟩

theorem Rdr.of_wrong {l : List TokL} (st : RS) : (wrongP l st).at_ = st.at_ := by unfold wrongP failP; split <;> rfl
set_option maxRecDepth 100000 in
set_option maxHeartbeats 2000000 in
theorem rof_any (b g c : Nat) (l : List TokL) (st : RS) (k : Nat) (hk : k ≠ 0) (w : World) (h : Rdr w b g c l st) :
    Calls Tryz.prog 21 #[.pointer (some ⟨b, 0, none⟩), .int .i64 k] w fun e w' => e = .returned (.tuple #[.agg (tokA (ofT l st k)), .bool (isOf l st k)]) ∧ Rdr w' b g c l (ofS l st k) ∧ Keep (· = b) w w' := by
  have hu26 := Tryz.underlying28
  have hu38 := Tryz.underlying50
  obtain ⟨t, ht⟩ : ∃ t, t = tk l st.at_ := ⟨_, rfl⟩
  have HL : Hid (∀ W, Keep (fun _ => False) w W → Calls Tryz.prog 49 #[.pointer (some ⟨b, 0, none⟩), .int .i64 0] W fun e w' => e = .returned (.agg #[.int .i64 t.kind, .string t.text, .int .i64 t.n, .bool t.same, .int .i64 t.pos.1, .int .i64 t.pos.2.1, .int .i64 t.pos.2.2]) ∧ Keep (fun _ => False) W w') := fun W hk => look0_any b g c l st W (h.keepF hk) t ht
  have HOK : Hid (∀ W, Keep (fun _ => False) w W → Calls Tryz.prog 50 #[.pointer (some ⟨b, 0, none⟩)] W fun e w' => e = .returned (.bool (decide (st.code = 0))) ∧ w' = W) := fun W hk => rok_any b g c l st W (h.keepF hk)
  have HH := Lib.hid h
  have ek : ((t.kind : Int) == (k : Int)) = (t.kind == k) := by rw [Bool.eq_iff_iff]; simp; omega
  have ek2 : ((t.kind : Int) != (k : Int)) = !(t.kind == k) := by rw [← ek]; rfl
  unfold ofT ofS
  cases hp : isOf l st k with
  | false =>
    rw [if_neg (by decide), if_neg (by decide)]
    have hcases : decide (st.code = 0) = false ∨ (decide (st.code = 0) = true ∧ (t.kind == k) = false) := by
      unfold isOf at hp
      rw [← ht, Bool.and_eq_false_iff] at hp
      by_cases h0 : st.code = 0
      · right
        refine ⟨by simpa using h0, ?_⟩
        rcases hp with hp | hp
        · simp [h0] at hp
        · exact hp
      · left; simpa using h0
    clear hp ht h ek
    rcases hcases with hc | ⟨hc, hkk⟩
    all_goals rw [hc] at HOK
    · clear hc ek2
      go_enter Tryz.func21, Tryz.ntmps21
      go_wp2_with fail
      obtain ⟨W0, hWW0⟩ : ∃ W0, W0 = w.alloc (.cells #[.int .i64 0, .string ⟨#[]⟩, .int .i64 0, .bool false, .int .i64 0, .int .i64 0, .int .i64 0] 50) := ⟨_, rfl⟩
      rw [← hWW0]
      have HBW0 := Lib.hid (show Blk W0 w.heap.size #[.int .i64 0, .string ⟨#[]⟩, .int .i64 0, .bool false, .int .i64 0, .int .i64 0, .int .i64 0] 50 by rw [hWW0]; exact Blk.new _ _ _)
      have HAW0 := Lib.hid (show Keep (fun _ => False) w W0 by rw [hWW0]; exact (Keep.refl _ _).alloc _)
      have HZW0 := Lib.hid (show W0.heap.size = w.heap.size + 1 by rw [hWW0]; simp)
      clear hWW0
      refine (HL.out _ HAW0.out).mono ?_
      rintro e w1 ⟨rfl, hk1⟩
      have HK1 := Lib.hid (HAW0.out.trans hk1)
      have HBZ := Lib.hid (hk1.blk HBW0.out (fun h => h))
      clear hk1
      go_wp2_with fail
      obtain ⟨W1, hWW1⟩ : ∃ W1, W1 = w1.alloc (.cells #[.int .i64 t.kind, .string t.text, .int .i64 t.n, .bool t.same, .int .i64 t.pos.1, .int .i64 t.pos.2.1, .int .i64 t.pos.2.2] 50) := ⟨_, rfl⟩
      rw [← hWW1]
      have HBW1 := Lib.hid (show Blk W1 w1.heap.size #[.int .i64 t.kind, .string t.text, .int .i64 t.n, .bool t.same, .int .i64 t.pos.1, .int .i64 t.pos.2.1, .int .i64 t.pos.2.2] 50 by rw [hWW1]; exact Blk.new _ _ _)
      have HAW1 := Lib.hid (show Keep (fun _ => False) w1 W1 by rw [hWW1]; exact (Keep.refl _ _).alloc _)
      have HZW1 := Lib.hid (show W1.heap.size = w1.heap.size + 1 by rw [hWW1]; simp)
      clear hWW1
      refine (HOK.out _ (HK1.out.trans HAW1.out)).mono ?_
      rintro e w2 ⟨rfl, rfl⟩
      have a7 := (HAW1.out.blk HBZ.out (fun h => h)).all7
      have b7 := HBW1.out.all7
      go_wp2_with fail
      have hkf := Keep.put7 (HK1.out.trans HAW1.out) (.inl (Nat.le_refl _)) (.int .i64 0) (.string ⟨#[]⟩) (.int .i64 0) (.bool false) (.int .i64 0) (.int .i64 0) (.int .i64 0)
      refine bodyPost_ret (v := .tuple #[.agg (tokA zTok), .bool false]) (by simp [tokA, zTok, results, Tryz.results21, go_sem, a7]) rfl ⟨rfl, HH.out.keepF hkf, hkf.mono (fun _ _ h => h.elim)⟩
    · rw [hkk] at ek2
      clear hc hkk
      go_enter Tryz.func21, Tryz.ntmps21
      go_wp2_with fail
      obtain ⟨W0, hWW0⟩ : ∃ W0, W0 = w.alloc (.cells #[.int .i64 0, .string ⟨#[]⟩, .int .i64 0, .bool false, .int .i64 0, .int .i64 0, .int .i64 0] 50) := ⟨_, rfl⟩
      rw [← hWW0]
      have HBW0 := Lib.hid (show Blk W0 w.heap.size #[.int .i64 0, .string ⟨#[]⟩, .int .i64 0, .bool false, .int .i64 0, .int .i64 0, .int .i64 0] 50 by rw [hWW0]; exact Blk.new _ _ _)
      have HAW0 := Lib.hid (show Keep (fun _ => False) w W0 by rw [hWW0]; exact (Keep.refl _ _).alloc _)
      have HZW0 := Lib.hid (show W0.heap.size = w.heap.size + 1 by rw [hWW0]; simp)
      clear hWW0
      refine (HL.out _ HAW0.out).mono ?_
      rintro e w1 ⟨rfl, hk1⟩
      have HK1 := Lib.hid (HAW0.out.trans hk1)
      have HBZ := Lib.hid (hk1.blk HBW0.out (fun h => h))
      clear hk1
      go_wp2_with fail
      obtain ⟨W1, hWW1⟩ : ∃ W1, W1 = w1.alloc (.cells #[.int .i64 t.kind, .string t.text, .int .i64 t.n, .bool t.same, .int .i64 t.pos.1, .int .i64 t.pos.2.1, .int .i64 t.pos.2.2] 50) := ⟨_, rfl⟩
      rw [← hWW1]
      have HBW1 := Lib.hid (show Blk W1 w1.heap.size #[.int .i64 t.kind, .string t.text, .int .i64 t.n, .bool t.same, .int .i64 t.pos.1, .int .i64 t.pos.2.1, .int .i64 t.pos.2.2] 50 by rw [hWW1]; exact Blk.new _ _ _)
      have HAW1 := Lib.hid (show Keep (fun _ => False) w1 W1 by rw [hWW1]; exact (Keep.refl _ _).alloc _)
      have HZW1 := Lib.hid (show W1.heap.size = w1.heap.size + 1 by rw [hWW1]; simp)
      clear hWW1
      refine (HOK.out _ (HK1.out.trans HAW1.out)).mono ?_
      rintro e w2 ⟨rfl, rfl⟩
      have a7 := (HAW1.out.blk HBZ.out (fun h => h)).all7
      have b7 := HBW1.out.all7
      go_wp2_with fail
      have hkf := Keep.put7 (HK1.out.trans HAW1.out) (.inl (Nat.le_refl _)) (.int .i64 0) (.string ⟨#[]⟩) (.int .i64 0) (.bool false) (.int .i64 0) (.int .i64 0) (.int .i64 0)
      refine bodyPost_ret (v := .tuple #[.agg (tokA zTok), .bool false]) (by simp [tokA, zTok, results, Tryz.results21, go_sem, a7]) rfl ⟨rfl, HH.out.keepF hkf, hkf.mono (fun _ _ h => h.elim)⟩
  | true =>
    rw [if_pos rfl, if_pos rfl]
    obtain ⟨hat, hc⟩ := isOf_in hk hp
    have hbig := h.big
    have hkk : (t.kind == k) = true := by
      unfold isOf at hp
      rw [← ht, Bool.and_eq_true] at hp; exact hp.2
    rw [hkk] at ek2
    rw [decide_eq_true hc] at HOK
    rw [← ht]
    clear hp ht h hkk ek hc
    · skip
      go_enter Tryz.func21, Tryz.ntmps21
      go_wp2_with fail
      obtain ⟨W0, hWW0⟩ : ∃ W0, W0 = w.alloc (.cells #[.int .i64 0, .string ⟨#[]⟩, .int .i64 0, .bool false, .int .i64 0, .int .i64 0, .int .i64 0] 50) := ⟨_, rfl⟩
      rw [← hWW0]
      have HBW0 := Lib.hid (show Blk W0 w.heap.size #[.int .i64 0, .string ⟨#[]⟩, .int .i64 0, .bool false, .int .i64 0, .int .i64 0, .int .i64 0] 50 by rw [hWW0]; exact Blk.new _ _ _)
      have HAW0 := Lib.hid (show Keep (fun _ => False) w W0 by rw [hWW0]; exact (Keep.refl _ _).alloc _)
      have HZW0 := Lib.hid (show W0.heap.size = w.heap.size + 1 by rw [hWW0]; simp)
      clear hWW0
      refine (HL.out _ HAW0.out).mono ?_
      rintro e w1 ⟨rfl, hk1⟩
      have HK1 := Lib.hid (HAW0.out.trans hk1)
      have HBZ := Lib.hid (hk1.blk HBW0.out (fun h => h))
      clear hk1
      go_wp2_with fail
      obtain ⟨W1, hWW1⟩ : ∃ W1, W1 = w1.alloc (.cells #[.int .i64 t.kind, .string t.text, .int .i64 t.n, .bool t.same, .int .i64 t.pos.1, .int .i64 t.pos.2.1, .int .i64 t.pos.2.2] 50) := ⟨_, rfl⟩
      rw [← hWW1]
      have HBW1 := Lib.hid (show Blk W1 w1.heap.size #[.int .i64 t.kind, .string t.text, .int .i64 t.n, .bool t.same, .int .i64 t.pos.1, .int .i64 t.pos.2.1, .int .i64 t.pos.2.2] 50 by rw [hWW1]; exact Blk.new _ _ _)
      have HAW1 := Lib.hid (show Keep (fun _ => False) w1 W1 by rw [hWW1]; exact (Keep.refl _ _).alloc _)
      have HZW1 := Lib.hid (show W1.heap.size = w1.heap.size + 1 by rw [hWW1]; simp)
      clear hWW1
      refine (HOK.out _ (HK1.out.trans HAW1.out)).mono ?_
      rintro e w2 ⟨rfl, rfl⟩
      have a7 := (HAW1.out.blk HBZ.out (fun h => h)).all7
      have b7 := HBW1.out.all7
      have HR2 := HH.out.keepF (HK1.out.trans HAW1.out)
      have r6 := HR2.all6
      have f1 := HR2.blk.free 1
      have hbne : b ≠ w.heap.size := Nat.ne_of_lt HH.out.blk.lt
      have hbne2 : b ≠ w1.heap.size := Nat.ne_of_lt (Nat.lt_of_lt_of_le HH.out.blk.lt HK1.out.size)
      have HU := Lib.hid (Rdr.up HR2 hat)
      have HKU := Lib.hid (((HK1.out.trans HAW1.out).mono (Q := (· = b)) (fun _ _ h => h.elim)).set1 1 (.int .i64 ((st.at_ : Int) + 1)))
      clear HR2
      go_wp2_with fail
      have hgne : g ≠ w.heap.size := Nat.ne_of_lt HH.out.glt
      refine bodyPost_ret (v := .tuple #[.agg (tokA t), .bool true]) (by simp [tokA, results, Tryz.results21, go_sem, a7, hbne, Ne.symm hbne]) rfl ⟨rfl, ?_, Keep.put7 HKU.out (.inl (Nat.le_refl _)) _ _ _ _ _ _ _⟩
      exact HU.out.keep (P := (· = w.heap.size)) (Keep.put7 (P := (· = w.heap.size)) (b := w.heap.size) (Keep.refl (· = w.heap.size) _) (.inr rfl) _ _ _ _ _ _ _) hbne hgne
end Go.Proofs.YtgmmjhelcpgakaaGreatDoor
/- Package toks: Must, Name; strings.Contains of a text of one byte. -/
namespace Go.Proofs.YtgmmjhelcpgakaaGreatDoor
open Go.RowKit Go.Shelf
set_option linter.unusedVariables false
set_option linter.unusedSimpArgs false

def mustsS (l : List TokL) : RS → List ByteArray → Bool × RS
  | st, [] => (true, st)
  | st, s :: r => if isP l st [s] then mustsS l st.up r else (false, wrongP l st)
theorem mustsS_one (l : List TokL) (st : RS) (s : ByteArray) : mustsS l st [s] = (isP l st [s], mustS l st s) := by
  unfold mustsS mustS; cases isP l st [s] <;> rfl
theorem textR_one (w : World) (b : Nat) (s : ByteArray) (h : w.cell? ⟨b, 0, none⟩ = some (.string s)) : TextR w b [s] := by
  intro j hj
  obtain rfl : j = 0 := by simp at hj; omega
  exact h
set_option maxRecDepth 100000 in
set_option maxHeartbeats 2000000 in
theorem must_any (b g c : Nat) (l : List TokL) (st : RS) (gt n ct : Nat) (ts : List ByteArray) (w : World) (h : Rdr w b g c l st) (hr : TextR w gt ts) (hne : gt ≠ b) (hn : n = ts.length) (hb : n ≤ 1000000) :
    Calls Tryz.prog 179 #[.pointer (some ⟨b, 0, none⟩), .slice (some ⟨gt, 0, none⟩) n ct] w fun e w' => e = .returned (.bool (mustsS l st ts).1) ∧ Rdr w' b g c l (mustsS l st ts).2 ∧ Keep (· = b) w w' := by
  obtain ⟨R, hR⟩ : ∃ R, R = mustsS l st ts := ⟨_, rfl⟩
  rw [← hR]
  have HR := Lib.hid hR.symm; clear hR
  have HN := Lib.hid hn; clear hn
  have HC := Lib.hid hr; clear hr
  have HH := Lib.hid h; clear h
  have HNE := Lib.hid hne; clear hne
  go_enter Tryz.func179, Tryz.ntmps179
  go_wp2_with fail
  go_loopw [11] (fun i wr => ∃ (k : Nat) (sk : RS), k ≤ n ∧ i = .int .i64 k ∧ Rdr wr b g c l sk ∧ Keep (· = b) w wr ∧ Hid (mustsS l sk (ts.drop k) = R)) (fun i _ => n - (intOf i).toNat)
  case atStart => exact ⟨0, st, Nat.zero_le _, rfl, HH.out, Keep.refl _ _, HR.out⟩
  case round =>
    obtain ⟨k, sk, hk, rfl, hrd, hkp, HG⟩ := hrel
    by_cases hlt : k < n
    · have hkl : k < ts.length := by rw [← HN.out]; exact hlt
      have hcell := hkp.cell (HC.out k hkl) HNE.out
      obtain ⟨y, hy⟩ : ∃ y, y = ts.getD k eS := ⟨_, rfl⟩
      rw [← hy] at hcell
      have hd : ts.drop k = y :: ts.drop (k + 1) := by
        rw [List.drop_eq_getElem_cons hkl, hy, List.getD_eq_getElem?_getD, List.getElem?_eq_getElem hkl]; rfl
      have HG2 := HG.out
      rw [hd] at HG2
      unfold mustsS at HG2
      have HG2 := Lib.hid HG2
      clear hy hd HG
      have hi0 : (0 : Int) ≤ (k : Int) := by omega
      have hi1 : (k : Int) < (n : Int) := by omega
      have HRD := Lib.hid hrd; have HKP := Lib.hid hkp
      have hbl := hrd.blk.lt
      have hgl := hrd.glt
      clear hrd hkp
      go_wp2_with fail
      obtain ⟨W0, hWW0⟩ : ∃ W0, W0 = wr.alloc (.cells #[.string y] 9) := ⟨_, rfl⟩
      rw [← hWW0]
      have HBW0 := Lib.hid (show Blk W0 wr.heap.size #[.string y] 9 by rw [hWW0]; exact Blk.new _ _ _)
      have HAW0 := Lib.hid (show Keep (fun _ => False) wr W0 by rw [hWW0]; exact (Keep.refl _ _).alloc _)
      have HZW0 := Lib.hid (show W0.heap.size = wr.heap.size + 1 by rw [hWW0]; simp)
      clear hWW0
      have HT := Lib.hid (take_any b g c l sk wr.heap.size 1 1 [y] W0 (HRD.out.keepF HAW0.out) (textR_one _ _ _ (HBW0.out.at_ 0 rfl)) rfl (by decide))
      refine HT.out.mono ?_
      rintro e w1 ⟨rfl, hr1, hk1⟩
      have HK1 := Lib.hid (HKP.out.trans ((HAW0.out.mono (Q := (· = b)) (fun _ _ h => h.elim)).trans hk1))
      clear hk1 HT
      unfold takeT
      unfold takeS at hr1
      cases hp : isP l sk [y] with
      | true =>
        rw [hp, if_pos rfl] at hr1
        have HR1 := Lib.hid hr1
        have HG3 := HG2.out
        rw [hp, if_pos rfl] at HG3
        have HG3 := Lib.hid HG3
        rw [if_pos rfl]
        clear hr1 hp HG2
        go_wp2_with fail
        go_roundw
        case rel => exact ⟨k + 1, sk.up, by omega, by go_num, HR1.out, HK1.out, HG3.out⟩
        case measure => simp [intOf]; omega
      | false =>
        rw [hp, if_neg (by decide)] at hr1
        have HG3 := HG2.out
        rw [hp, if_neg (by decide)] at HG3
        have HW := Lib.hid (wrong_any b g c l sk w1 hr1)
        rw [if_neg (by decide)]
        have HG3 := Lib.hid HG3
        clear hr1 hp HG2
        go_wp2_with fail
        refine HW.out.mono ?_
        rintro e w2 ⟨rfl, hr2, hk2⟩
        go_wp2_with fail
        go_ret
        rw [← HG3.out]
        exact ⟨rfl, hr2, HK1.out.trans hk2⟩
    · obtain rfl : k = n := by omega
      have HG2 := HG.out
      rw [HN.out, List.drop_length] at HG2
      have HG2 := Lib.hid HG2
      clear HG
      go_wp2_with fail
      go_ret
      rw [← HG2.out]
      exact ⟨rfl, hrd, hkp⟩

theorem slIndexByte_any (s : ByteArray) (c : Int) (w : World) :
    Calls Tryz.prog 111 #[.string s, .int .u8 c] w fun e w' => e = .returned (.int .i64 (Lib.indexByte s.data.toList c.toNat.toUInt8)) ∧ w' = w := Any.stringslite_IndexByte { Tryz.lays137 with } s c w
set_option maxRecDepth 100000 in
set_option maxHeartbeats 1000000 in
theorem slIndex_one (s : ByteArray) (c : UInt8) (w : World) (hs : s.size ≤ 140737488351232) (hno : (bs s).contains c = false) :
    Calls Tryz.prog 222 #[.string s, .string ⟨#[c]⟩] w fun e w' => e = .returned (.int .i64 (-1)) ∧ w' = w := by
  have H := slIndexByte_any s (c.toNat : Int) w
  rw [show (c.toNat : Int).toNat.toUInt8 = c from by simp, show s.data.toList = bs s from rfl, indexByte_neg _ _ hno] at H
  have H := Lib.hid H
  have hne : ([c] == s.toList) = false := by
    rw [beq_eq_false_iff_ne]
    intro h
    rw [ByteArray.toList_eq] at h
    have h2 : bs s = [c] := h.symm
    rw [h2] at hno; simp at hno
  clear hno
  go_enter Tryz.func222, Tryz.ntmps222
  go_wp2_with fail
  refine H.out.mono ?_
  rintro e w1 ⟨rfl, rfl⟩
  go_wp2_with fail
  go_ret
  exact ⟨rfl, rfl⟩
theorem stIndex_one (s : ByteArray) (c : UInt8) (w : World) (hs : s.size ≤ 140737488351232) (hno : (bs s).contains c = false) :
    Calls Tryz.prog 208 #[.string s, .string ⟨#[c]⟩] w fun e w' => e = .returned (.int .i64 (-1)) ∧ w' = w := by
  have H := Lib.hid (slIndex_one s c w hs hno)
  clear hno
  go_enter Tryz.func208, Tryz.ntmps208
  go_wp2_with fail
  refine H.out.mono ?_
  rintro e w1 ⟨rfl, rfl⟩
  go_wp2_with fail
  go_ret
  exact ⟨rfl, rfl⟩
theorem contains_no (s : ByteArray) (c : UInt8) (w : World) (hs : s.size ≤ 140737488351232) (hno : (bs s).contains c = false) :
    Calls Tryz.prog 219 #[.string s, .string ⟨#[c]⟩] w fun e w' => e = .returned (.bool false) ∧ w' = w := by
  have H := Lib.hid (stIndex_one s c w hs hno)
  clear hno
  go_enter Tryz.func219, Tryz.ntmps219
  go_wp2_with fail
  refine H.out.mono ?_
  rintro e w1 ⟨rfl, rfl⟩
  go_wp2_with fail
  go_ret
  exact ⟨rfl, rfl⟩
/-- The tokens' names have no dollar, and no text is too long. -/
def NoDol (l : List TokL) : Prop := ∀ t ∈ l, (t.kind = 1 → (bs t.text).contains 36 = false) ∧ t.text.size ≤ 140737488351232
theorem NoDol.of {l : List TokL} (h : NoDol l) (st : RS) : (bs (ofT l st 1).text).contains 36 = false ∧ (ofT l st 1).text.size ≤ 140737488351232 := by
  unfold ofT
  cases hp : isOf l st 1 with
  | false => exact ⟨rfl, Nat.zero_le _⟩
  | true =>
    rw [if_pos rfl]
    have hk : (tk l st.at_).kind = 1 := by unfold isOf at hp; simp only [Bool.and_eq_true, beq_iff_eq] at hp; exact hp.2
    unfold tk at hk ⊢
    cases hi : l[st.at_]? with
    | none => rw [hi] at hk; cases hk
    | some t =>
      rw [hi] at hk
      obtain ⟨h1, h2⟩ := h t (List.mem_of_getElem? hi)
      exact ⟨h1 hk, h2⟩
set_option maxRecDepth 100000 in
set_option maxHeartbeats 2000000 in
theorem rname_any (b g c : Nat) (l : List TokL) (st : RS) (w : World) (h : Rdr w b g c l st) (hd : NoDol l) :
    Calls Tryz.prog 202 #[.pointer (some ⟨b, 0, none⟩)] w fun e w' => e = .returned (.string (nameT l st)) ∧ Rdr w' b g c l (nameS l st) ∧ Keep (· = b) w w' := by
  have hu26 := Tryz.underlying28
  have hu38 := Tryz.underlying50
  have HO := rof_any b g c l st 1 (by decide) w h
  obtain ⟨t, ht⟩ : ∃ t, t = ofT l st 1 := ⟨_, rfl⟩
  obtain ⟨d1, d2⟩ := hd.of st
  unfold nameT nameS
  unfold ofS at HO
  rw [← ht] at HO d1 d2 ⊢
  have HCN : Hid (∀ W, Calls Tryz.prog 219 #[.string t.text, .string ⟨#[36]⟩] W fun e w' => e = .returned (.bool false) ∧ w' = W) := fun W => contains_no t.text 36 W d2 d1
  unfold tokA at HO
  clear ht hd d1 d2
  cases hp : isOf l st 1 with
  | true =>
    rw [hp, if_pos rfl] at HO
    rw [if_pos rfl]
    have HO := Lib.hid HO
    clear hp h
    go_enter Tryz.func202, Tryz.ntmps202
    go_wp2_with fail
    refine HO.out.mono ?_
    rintro e w1 ⟨rfl, hr1, hk1⟩
    have HR1 := Lib.hid hr1; have HK1 := Lib.hid hk1
    clear hr1 hk1
    go_wp2_with fail
    obtain ⟨W0, hWW0⟩ : ∃ W0, W0 = w1.alloc (.cells #[.int .i64 t.kind, .string t.text, .int .i64 t.n, .bool t.same, .int .i64 t.pos.1, .int .i64 t.pos.2.1, .int .i64 t.pos.2.2] 50) := ⟨_, rfl⟩
    rw [← hWW0]
    have HBW0 := Lib.hid (show Blk W0 w1.heap.size #[.int .i64 t.kind, .string t.text, .int .i64 t.n, .bool t.same, .int .i64 t.pos.1, .int .i64 t.pos.2.1, .int .i64 t.pos.2.2] 50 by rw [hWW0]; exact Blk.new _ _ _)
    have HAW0 := Lib.hid (show Keep (fun _ => False) w1 W0 by rw [hWW0]; exact (Keep.refl _ _).alloc _)
    have HZW0 := Lib.hid (show W0.heap.size = w1.heap.size + 1 by rw [hWW0]; simp)
    clear hWW0
    refine (HCN.out _).mono ?_
    rintro e w2 ⟨rfl, rfl⟩
    have b7 := HBW0.out.all7
    go_wp2_with fail
    go_ret
    exact ⟨rfl, HR1.out.keepF HAW0.out, HK1.out.trans (HAW0.out.mono (fun _ _ h => h.elim))⟩
  | false =>
    rw [hp, if_neg (by decide)] at HO
    rw [if_neg (by decide)]
    have HO := Lib.hid HO
    clear hp h
    go_enter Tryz.func202, Tryz.ntmps202
    go_wp2_with fail
    refine HO.out.mono ?_
    rintro e w1 ⟨rfl, hr1, hk1⟩
    have HR1 := Lib.hid hr1; have HK1 := Lib.hid hk1
    clear hr1 hk1
    go_wp2_with fail
    obtain ⟨W0, hWW0⟩ : ∃ W0, W0 = w1.alloc (.cells #[.int .i64 t.kind, .string t.text, .int .i64 t.n, .bool t.same, .int .i64 t.pos.1, .int .i64 t.pos.2.1, .int .i64 t.pos.2.2] 50) := ⟨_, rfl⟩
    rw [← hWW0]
    have HBW0 := Lib.hid (show Blk W0 w1.heap.size #[.int .i64 t.kind, .string t.text, .int .i64 t.n, .bool t.same, .int .i64 t.pos.1, .int .i64 t.pos.2.1, .int .i64 t.pos.2.2] 50 by rw [hWW0]; exact Blk.new _ _ _)
    have HAW0 := Lib.hid (show Keep (fun _ => False) w1 W0 by rw [hWW0]; exact (Keep.refl _ _).alloc _)
    have HZW0 := Lib.hid (show W0.heap.size = w1.heap.size + 1 by rw [hWW0]; simp)
    clear hWW0
    have HW := Lib.hid (wrong_any b g c l st W0 (HR1.out.keepF HAW0.out))
    have hbl := HR1.out.blk.lt
    refine HW.out.mono ?_
    rintro e w2 ⟨rfl, hr2, hk2⟩
    have hne : w1.heap.size ≠ b := Ne.symm (Nat.ne_of_lt hbl)
    have HB2 := Lib.hid (hk2.blk HBW0.out hne)
    have HR2 := Lib.hid hr2
    have HK2 := Lib.hid (HK1.out.trans ((HAW0.out.mono (Q := (· = b)) (fun _ _ h => h.elim)).trans hk2))
    clear hr2 hk2
    have b7 := HB2.out.all7
    go_wp2_with fail
    refine (HCN.out _).mono ?_
    rintro e w3 ⟨rfl, rfl⟩
    go_wp2_with fail
    go_ret
    exact ⟨rfl, HR2.out, HK2.out⟩
end Go.Proofs.YtgmmjhelcpgakaaGreatDoor
