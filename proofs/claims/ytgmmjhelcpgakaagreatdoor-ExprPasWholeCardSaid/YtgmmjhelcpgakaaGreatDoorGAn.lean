/- The reference of expressions: Tok, Is, Wrong, wrong, last. -/
import Derived.Test.YtgmmjhelcpgakaaGreatDoorGA
import Derived.Test.YtgmmjhelcpgakaaGreatDoorGAj
import Derived.Test.YtgmmjhelcpgakaaGreatDoorGX
import Derived.Test.YtgmmjhelcpgakaaGreatDoorGAl
namespace Go.Proofs.YtgmmjhelcpgakaaGreatDoor
open Go.RowKit
set_option linter.unusedVariables false
set_option linter.unusedSimpArgs false

/-- The tokens, as the reference is handed them. -/
structure Tks (w : World) (g : Nat) (l : List TokL) : Prop where
  toks : TokR w g l
  pos : 0 < l.length
  big : l.length ≤ 1000000
theorem Tks.keep {w w' : World} {g : Nat} {l : List TokL} (h : Tks w g l) (hk : Keep (fun _ => False) w w') : Tks w' g l := ⟨h.toks.keep hk (fun h => h), h.pos, h.big⟩
theorem Tks.glt {w : World} {g : Nat} {l : List TokL} (h : Tks w g l) : g < w.heap.size := by
  obtain ⟨t, ht⟩ : ∃ t, l[0]? = some t := ⟨_, List.getElem?_eq_getElem h.pos⟩
  have k := h.toks 0 t ht 0 (by decide)
  exact World.block_lt_of_cell? w ⟨g, 0 * 7 + 0, none⟩ (u := .int .i64 t.kind) (by rw [k]; rfl)
def zTokC : Array Value := #[.int .i64 0, .string ⟨#[]⟩, .int .i64 0, .bool false, .int .i64 0, .int .i64 0, .int .i64 0]
set_option maxRecDepth 100000 in
set_option maxHeartbeats 1000000 in
theorem refTok_any (g c : Nat) (l : List TokL) (i : Nat) (hi : i ≤ 2000000) (w : World) (h : Tks w g l) :
    Calls Tryz.prog 24 #[.slice (some ⟨g, 0, none⟩) l.length c, .int .i64 i] w fun e w' => e = .returned (.agg (tokA (tk l i))) ∧ Keep (fun _ => False) w w' := by
  have hbig := h.big
  have hpos := h.pos
  have hgl := h.glt
  have hu26 := Tryz.underlying28
  have hu38 := Tryz.underlying50
  have ht0 : decide (0 ≤ (i : Int)) = true := by simp
  by_cases hin : i < l.length
  · obtain ⟨t, ht⟩ : ∃ t, l[i]? = some t := ⟨_, List.getElem?_eq_getElem hin⟩
    rw [tk_in ht]
    have k0 := h.toks i t ht 0 (by decide)
    have k1 := h.toks i t ht 1 (by decide)
    have k2 := h.toks i t ht 2 (by decide)
    have k3 := h.toks i t ht 3 (by decide)
    have k4 := h.toks i t ht 4 (by decide)
    have k5 := h.toks i t ht 5 (by decide)
    have k6 := h.toks i t ht 6 (by decide)
    simp only [tokC, List.getElem?_cons_succ, List.getElem?_cons_zero, Nat.add_zero] at k0 k1 k2 k3 k4 k5 k6
    have hj0 : (0 : Int) ≤ (i : Int) := by omega
    have hj1 : (i : Int) < (l.length : Int) := by omega
    have ht1 : decide (i < l.length) = true := by simpa using hin
    clear ht h
    go_enter Tryz.func24, Tryz.ntmps24
    go_wp2_with fail
    refine bodyPost_ret (v := .agg (tokA t)) (by simp [tokA, results, Tryz.results24, go_sem]) rfl ⟨rfl, ?_⟩
    (repeat (first | exact Keep.refl _ _ | assumption | (refine Keep.setCell ?_ (fun h => absurd h (by first | (simp; done) | (simp; omega) | omega)) _) | refine Keep.alloc ?_ _ | refine Keep.drew ?_ | refine Keep.drewN ?_ _))
  · have hz : tk l i = ⟨0, eS, 0, false, lastPos l⟩ := by unfold tk; rw [List.getElem?_eq_none (by omega)]
    obtain ⟨t, ht⟩ : ∃ t, l[l.length - 1]? = some t := ⟨_, List.getElem?_eq_getElem (by omega)⟩
    have hlp : lastPos l = t.pos := by unfold lastPos; rw [List.getLast?_eq_getElem?, ht]
    rw [hz, hlp]
    have k4 := h.toks _ t ht 4 (by decide)
    have k5 := h.toks _ t ht 5 (by decide)
    have k6 := h.toks _ t ht 6 (by decide)
    simp only [tokC, List.getElem?_cons_succ, List.getElem?_cons_zero, Nat.add_zero] at k4 k5 k6
    have ht1 : decide (i < l.length) = false := by simpa using hin
    have ht2 : ((l.length : Int) == 0) = false := by rw [beq_eq_false_iff_ne]; omega
    have hw : IntKind.i64.wrap ((l.length : Int) - 1) = ((l.length - 1 : Nat) : Int) := by rw [IntWalk.i64_in _ (by omega)]; omega
    have hj0 : (0 : Int) ≤ ((l.length - 1 : Nat) : Int) := by omega
    have hj1 : ((l.length - 1 : Nat) : Int) < (l.length : Int) := Int.ofNat_lt.2 (Nat.sub_lt hpos (by decide))
    clear ht hz hlp hin h
    go_enter Tryz.func24, Tryz.ntmps24
    go_wp2_with fail
    refine bodyPost_ret (v := .agg (tokA ⟨0, eS, 0, false, t.pos⟩)) (by simp [tokA, results, Tryz.results24, go_sem]) rfl ⟨rfl, ?_⟩
    (repeat (first | exact Keep.refl _ _ | assumption | (refine Keep.setCell ?_ (fun h => absurd h (by first | (simp; done) | (simp; omega) | omega)) _) | refine Keep.alloc ?_ _ | refine Keep.drew ?_ | refine Keep.drewN ?_ _))
set_option maxRecDepth 100000 in
set_option maxHeartbeats 1000000 in
theorem refIs_any (g c : Nat) (l : List TokL) (i : Nat) (hi : i ≤ 2000000) (s : ByteArray) (w : World) (h : Tks w g l) :
    Calls Tryz.prog 94 #[.slice (some ⟨g, 0, none⟩) l.length c, .int .i64 i, .string s] w fun e w' => e = .returned (.bool (isT l i s)) ∧ Keep (fun _ => False) w w' := by
  have hu26 := Tryz.underlying28
  have hu38 := Tryz.underlying50
  have HT := Lib.hid (refTok_any g c l i hi w h)
  obtain ⟨t, ht⟩ : ∃ t, t = tk l i := ⟨_, rfl⟩
  rw [← ht] at HT
  have hR : isT l i s = ((t.kind == 2 || t.kind == 5) && decide (t.text = s)) := by rw [ht]; rfl
  obtain ⟨R, hR2⟩ : ∃ R, R = isT l i s := ⟨_, rfl⟩
  rw [← hR2]
  rw [← hR2] at hR
  have e5 : ((t.kind : Int) == 5) = (t.kind == 5) := by rw [Bool.eq_iff_iff]; simp; omega
  have e2 : ((t.kind : Int) == 2) = (t.kind == 2) := by rw [Bool.eq_iff_iff]; simp; omega
  have es : (t.text.toList == s.toList) = decide (t.text = s) := beq_str _ _
  obtain ⟨k5, hk5⟩ : ∃ k5, k5 = (t.kind == 5) := ⟨_, rfl⟩
  obtain ⟨k2, hk2⟩ : ∃ k2, k2 = (t.kind == 2) := ⟨_, rfl⟩
  obtain ⟨an, han⟩ : ∃ an, an = decide (t.text = s) := ⟨_, rfl⟩
  rw [← hk5, ← hk2, ← han] at hR
  rw [← hk5] at e5
  rw [← hk2] at e2
  rw [← han] at es
  have HR := Lib.hid hR
  clear hR hR2 hk5 hk2 han ht h
  unfold tokA at HT
  go_enter Tryz.func94, Tryz.ntmps94
  go_wp2_with fail
  refine HT.out.mono ?_
  rintro e w1 ⟨rfl, hk1⟩
  go_upto_region 2 with fail
  obtain ⟨W, hWW⟩ : ∃ W, W = w1.alloc (.cells #[.int .i64 t.kind, .string t.text, .int .i64 t.n, .bool t.same, .int .i64 t.pos.1, .int .i64 t.pos.2.1, .int .i64 t.pos.2.2] 50) := ⟨_, rfl⟩
  rw [← hWW]
  have HBW := Lib.hid (show Blk W w1.heap.size #[.int .i64 t.kind, .string t.text, .int .i64 t.n, .bool t.same, .int .i64 t.pos.1, .int .i64 t.pos.2.1, .int .i64 t.pos.2.2] 50 by rw [hWW]; exact Blk.new _ _ _)
  have HAW := Lib.hid (show Keep (fun _ => False) w1 W by rw [hWW]; exact (Keep.refl _ _).alloc _)
  have HZW := Lib.hid (show W.heap.size = w1.heap.size + 1 by rw [hWW]; simp)
  clear hWW
  have HK1 := Lib.hid (hk1.trans HAW.out)
  have a7 := HBW.out.all7
  cases k2 <;> cases k5
  all_goals
    go_wp2_with fail
    go_ret
    exact ⟨by rw [HR.out]; rfl, HK1.out⟩
def diagA (c : Nat) (p : Pos3) : Array Value := #[.int .i64 c, .int .i64 p.1, .int .i64 p.2.1, .int .i64 p.2.2]
def wrC (l : List TokL) (i : Nat) : Nat := if (tk l i).kind = 6 then 9 else 10
set_option maxRecDepth 100000 in
set_option maxHeartbeats 1000000 in
theorem refWrong_any (g c : Nat) (l : List TokL) (i : Nat) (hi : i ≤ 2000000) (w : World) (h : Tks w g l) :
    Calls Tryz.prog 25 #[.slice (some ⟨g, 0, none⟩) l.length c, .int .i64 i] w fun e w' => e = .returned (.agg (diagA (wrC l i) (tk l i).pos)) ∧ Keep (fun _ => False) w w' := by
  have hu26 := Tryz.underlying28
  have hu28 := Tryz.underlying30
  have hu38 := Tryz.underlying50
  have HT : Hid (∀ W, Keep (fun _ => False) w W → Calls Tryz.prog 24 #[.slice (some ⟨g, 0, none⟩) l.length c, .int .i64 i] W fun e w' => e = .returned (.agg (tokA (tk l i))) ∧ Keep (fun _ => False) W w') := fun W hk => refTok_any g c l i hi W (h.keep hk)
  unfold wrC
  obtain ⟨t, ht⟩ : ∃ t, t = tk l i := ⟨_, rfl⟩
  rw [← ht] at HT ⊢
  have e6 := toks_kind6 t
  clear ht h
  unfold tokA at HT
  by_cases h6 : t.kind = 6
  all_goals
    first | rw [decide_eq_true h6] at e6 | rw [decide_eq_false h6] at e6
    first | rw [if_pos h6] | rw [if_neg h6]
    have H6 := Lib.hid h6; clear h6
    go_enter Tryz.func25, Tryz.ntmps25
    go_wp2_with fail
    refine (HT.out _ ((Keep.refl _ w).alloc _)).mono ?_
    rintro e w1 ⟨rfl, hk1⟩
    have hb : Blk w1 w.heap.size #[.int .i64 0, .int .i64 0, .int .i64 0, .int .i64 0] 30 := hk1.blk (Blk.new _ _ _) (fun h => h)
    have b4 := hb.all4
    have hlt := hb.lt
    have hkk := ((Keep.refl (fun _ => False) w).alloc _).trans hk1
    have HK := Lib.hid hkk; clear hkk hk1 hb
    go_wp2_with fail
  · refine bodyPost_ret (v := .agg (diagA 9 t.pos)) (by simp [diagA, results, Tryz.results25, go_sem, b4, hlt]) rfl ⟨rfl, ?_⟩
    exact (Keep.put4 HK.out (.inl (Nat.le_refl _)) _ _ _ _).alloc _
  · refine bodyPost_ret (v := .agg (diagA 10 t.pos)) (by simp [diagA, results, Tryz.results25, go_sem, b4, hlt]) rfl ⟨rfl, ?_⟩
    exact (Keep.put4 HK.out (.inl (Nat.le_refl _)) _ _ _ _).alloc _
/-- What a reference's function got. -/
def gotA (r : Res) (A : Option Addr) (cc : Nat) : Array Value := #[.int .i64 (resE r).op, .int .i64 (resE r).num, .string (resE r).name, .string (resE r).field, .slice A (resE r).list.length cc, .int .i64 (resI 0 r : Nat), .int .i64 (resC r : Nat), .int .i64 (resP r).1, .int .i64 (resP r).2.1, .int .i64 (resP r).2.2]
end Go.Proofs.YtgmmjhelcpgakaaGreatDoor
/- A block of ten cells, written and read cell by cell. -/
namespace Go.Proofs.YtgmmjhelcpgakaaGreatDoor
open Go.RowKit
set_option linter.unusedVariables false
set_option linter.unusedSimpArgs false

theorem Blk.set10 {w : World} {b t : Nat} {a0 a1 a2 a3 a4 a5 a6 a7 a8 a9 : Value} (h : Blk w b #[a0, a1, a2, a3, a4, a5, a6, a7, a8, a9] t) (v0 v1 v2 v3 v4 v5 v6 v7 v8 v9 : Value) :
    Blk ((((((((((w.setCell ⟨b, 0, none⟩ v0).setCell ⟨b, 1, none⟩ v1).setCell ⟨b, 2, none⟩ v2).setCell ⟨b, 3, none⟩ v3).setCell ⟨b, 4, none⟩ v4).setCell ⟨b, 5, none⟩ v5).setCell ⟨b, 6, none⟩ v6).setCell ⟨b, 7, none⟩ v7).setCell ⟨b, 8, none⟩ v8).setCell ⟨b, 9, none⟩ v9) b #[v0, v1, v2, v3, v4, v5, v6, v7, v8, v9] t := by
  have := ((((((((((h.set 0 v0).set 1 v1).set 2 v2).set 3 v3).set 4 v4).set 5 v5).set 6 v6).set 7 v7).set 8 v8).set 9 v9)
  simpa using this
theorem Keep.set10 {w w1 : World} {b : Nat} (h : Keep (fun _ => False) w w1) (hb : w.heap.size ≤ b) (v0 v1 v2 v3 v4 v5 v6 v7 v8 v9 : Value) :
    Keep (fun _ => False) w ((((((((((w1.setCell ⟨b, 0, none⟩ v0).setCell ⟨b, 1, none⟩ v1).setCell ⟨b, 2, none⟩ v2).setCell ⟨b, 3, none⟩ v3).setCell ⟨b, 4, none⟩ v4).setCell ⟨b, 5, none⟩ v5).setCell ⟨b, 6, none⟩ v6).setCell ⟨b, 7, none⟩ v7).setCell ⟨b, 8, none⟩ v8).setCell ⟨b, 9, none⟩ v9) := by
  have hp : ∀ i : Nat, (⟨b, i, none⟩ : Addr).block < w.heap.size → False := fun i hi => absurd hi (Nat.not_lt.2 hb)
  exact ((((((((((h.setCell (hp 0) v0).setCell (hp 1) v1).setCell (hp 2) v2).setCell (hp 3) v3).setCell (hp 4) v4).setCell (hp 5) v5).setCell (hp 6) v6).setCell (hp 7) v7).setCell (hp 8) v8).setCell (hp 9) v9)
theorem Keep.put10 {w w1 : World} {b : Nat} {P : Nat → Prop} (h : Keep P w w1) (hb : w.heap.size ≤ b ∨ P b) (v0 v1 v2 v3 v4 v5 v6 v7 v8 v9 : Value) :
    Keep P w ((((((((((w1.setCell ⟨b, 0, none⟩ v0).setCell ⟨b, 1, none⟩ v1).setCell ⟨b, 2, none⟩ v2).setCell ⟨b, 3, none⟩ v3).setCell ⟨b, 4, none⟩ v4).setCell ⟨b, 5, none⟩ v5).setCell ⟨b, 6, none⟩ v6).setCell ⟨b, 7, none⟩ v7).setCell ⟨b, 8, none⟩ v8).setCell ⟨b, 9, none⟩ v9) := by
  have hp : ∀ i : Nat, (⟨b, i, none⟩ : Addr).block < w.heap.size → P b := fun i hi => hb.elim (fun h => absurd hi (Nat.not_lt.2 h)) id
  exact ((((((((((h.setCell (hp 0) v0).setCell (hp 1) v1).setCell (hp 2) v2).setCell (hp 3) v3).setCell (hp 4) v4).setCell (hp 5) v5).setCell (hp 6) v6).setCell (hp 7) v7).setCell (hp 8) v8).setCell (hp 9) v9)
theorem Blk.all10 {w : World} {b t : Nat} {a0 a1 a2 a3 a4 a5 a6 a7 a8 a9 : Value} (h : Blk w b #[a0, a1, a2, a3, a4, a5, a6, a7, a8, a9] t) : w.cell? ⟨b, 0, none⟩ = some a0 ∧ w.cell? ⟨b, 1, none⟩ = some a1 ∧ w.cell? ⟨b, 2, none⟩ = some a2 ∧ w.cell? ⟨b, 3, none⟩ = some a3 ∧ w.cell? ⟨b, 4, none⟩ = some a4 ∧ w.cell? ⟨b, 5, none⟩ = some a5 ∧ w.cell? ⟨b, 6, none⟩ = some a6 ∧ w.cell? ⟨b, 7, none⟩ = some a7 ∧ w.cell? ⟨b, 8, none⟩ = some a8 ∧ w.cell? ⟨b, 9, none⟩ = some a9 ∧ w.frozen? ⟨b, 0, none⟩ = false ∧ w.frozen? ⟨b, 1, none⟩ = false ∧ w.frozen? ⟨b, 2, none⟩ = false ∧ w.frozen? ⟨b, 3, none⟩ = false ∧ w.frozen? ⟨b, 4, none⟩ = false ∧ w.frozen? ⟨b, 5, none⟩ = false ∧ w.frozen? ⟨b, 6, none⟩ = false ∧ w.frozen? ⟨b, 7, none⟩ = false ∧ w.frozen? ⟨b, 8, none⟩ = false ∧ w.frozen? ⟨b, 9, none⟩ = false :=
  ⟨h.at_ 0 rfl, h.at_ 1 rfl, h.at_ 2 rfl, h.at_ 3 rfl, h.at_ 4 rfl, h.at_ 5 rfl, h.at_ 6 rfl, h.at_ 7 rfl, h.at_ 8 rfl, h.at_ 9 rfl, h.free 0, h.free 1, h.free 2, h.free 3, h.free 4, h.free 5, h.free 6, h.free 7, h.free 8, h.free 9⟩
theorem Blk.put10 {w : World} {b t c : Nat} {cs : Array Value} (h : Blk w c cs t) (hb : c ≠ b) (v0 v1 v2 v3 v4 v5 v6 v7 v8 v9 : Value) :
    Blk ((((((((((w.setCell ⟨b, 0, none⟩ v0).setCell ⟨b, 1, none⟩ v1).setCell ⟨b, 2, none⟩ v2).setCell ⟨b, 3, none⟩ v3).setCell ⟨b, 4, none⟩ v4).setCell ⟨b, 5, none⟩ v5).setCell ⟨b, 6, none⟩ v6).setCell ⟨b, 7, none⟩ v7).setCell ⟨b, 8, none⟩ v8).setCell ⟨b, 9, none⟩ v9) c cs t := by
  exact (Blk.far (Blk.far (Blk.far (Blk.far (Blk.far (Blk.far (Blk.far (Blk.far (Blk.far (Blk.far h (p := ⟨b, 0, none⟩) hb v0) (p := ⟨b, 1, none⟩) hb v1) (p := ⟨b, 2, none⟩) hb v2) (p := ⟨b, 3, none⟩) hb v3) (p := ⟨b, 4, none⟩) hb v4) (p := ⟨b, 5, none⟩) hb v5) (p := ⟨b, 6, none⟩) hb v6) (p := ⟨b, 7, none⟩) hb v7) (p := ⟨b, 8, none⟩) hb v8) (p := ⟨b, 9, none⟩) hb v9)
end Go.Proofs.YtgmmjhelcpgakaaGreatDoor
/- The reference of expressions: wrong, last, words, row. -/
namespace Go.Proofs.YtgmmjhelcpgakaaGreatDoor
open Go.RowKit
set_option linter.unusedVariables false
set_option linter.unusedSimpArgs false

/-- What a reference's function leaves. -/
def GPost (r : Res) (w : World) (en : Ending) (w' : World) : Prop := ∃ A cc, en = .returned (.agg (gotA r A cc)) ∧ RdRow (w.heap.size ≤ ·) w' (resE r).list A ∧ Keep (fun _ => False) w w'
def zGot : Array Value := #[.int .i64 0, .int .i64 0, .string ⟨#[]⟩, .string ⟨#[]⟩, .slice none 0 0, .int .i64 0, .int .i64 0, .int .i64 0, .int .i64 0, .int .i64 0]
theorem wrongAt_eq (l : List TokL) (i : Nat) : wrongAt l i = .bad (wrC l i) (tk l i).pos := rfl
set_option maxRecDepth 100000 in
set_option maxHeartbeats 1000000 in
theorem refwrong_any (g c : Nat) (l : List TokL) (i : Nat) (hi : i ≤ 2000000) (w : World) (h : Tks w g l) :
    Calls Tryz.prog 126 #[.slice (some ⟨g, 0, none⟩) l.length c, .int .i64 i] w (GPost (wrongAt l i) w) := by
  have hu := Tryz.underlying63
  have HT : Hid (∀ W, Keep (fun _ => False) w W → Calls Tryz.prog 25 #[.slice (some ⟨g, 0, none⟩) l.length c, .int .i64 i] W fun e w' => e = .returned (.agg (diagA (wrC l i) (tk l i).pos)) ∧ Keep (fun _ => False) W w') := fun W hk => refWrong_any g c l i hi W (h.keep hk)
  rw [wrongAt_eq]
  generalize wrC l i = k at HT ⊢
  generalize (tk l i).pos = p at HT ⊢
  unfold diagA at HT
  go_enter Tryz.func126, Tryz.ntmps126
  go_wp2_with fail
  refine (HT.out _ ((Keep.refl _ w).alloc _)).mono ?_
  rintro e w1 ⟨rfl, hk1⟩
  have hb : Blk w1 w.heap.size zGot 63 := hk1.blk (Blk.new _ _ _) (fun h => h)
  have b10 := hb.all10
  have hkk := ((Keep.refl (fun _ => False) w).alloc _).trans hk1
  have HK := Lib.hid hkk; clear hkk hk1 hb
  go_wp2_with fail
  refine bodyPost_ret (v := .agg (gotA (.bad k p) none 0)) (by simp [gotA, resE, resI, resC, resP, exNil, Ex.op, Ex.num, Ex.name, Ex.field, Ex.list, results, Tryz.results126, go_sem, b10]) rfl ⟨none, 0, rfl, RdRow.nil _ _ _, ?_⟩
  exact Keep.put10 HK.out (.inl (Nat.le_refl _)) _ _ _ _ _ _ _ _ _ _
theorem reflast_any (w : World) : Calls Tryz.prog 67 #[.int .i64 0] w fun e w' => e = .returned (.int .i64 4) ∧ w' = w := by
  go_enter Tryz.func67, Tryz.ntmps67
  go_wp2_with fail
  go_ret
  exact ⟨rfl, rfl⟩
/-- A sign's words. -/
def wordsL (s : ByteArray) : List ByteArray := match (bs s).findIdx? (· == 32) with | none => [s] | some p => [s.extract 0 p, s.extract (p + 1) s.size]
theorem cut_snoc (s : ByteArray) (k : Nat) (h : k < s.size) (h0 : ((bs s).take k).findIdx? (· == 32) = none) (hx : s[k] ≠ 32) : ((bs s).take (k + 1)).findIdx? (· == 32) = none := by
  rw [take_snoc s k h, List.findIdx?_append, h0]
  simp [List.findIdx?_cons, hx]
theorem cut_at (s : ByteArray) (k : Nat) (h : k < s.size) (h0 : ((bs s).take k).findIdx? (· == 32) = none) (hx : s[k] = 32) : wordsL s = [s.extract 0 k, s.extract (k + 1) s.size] := by
  have hb : bs s = (bs s).take k ++ (s[k] :: (bs s).drop (k + 1)) := by rw [← bs_drop s k h, List.take_append_drop]
  have hf : (bs s).findIdx? (· == 32) = some k := by
    rw [hb, List.findIdx?_append, h0]
    simp [List.findIdx?_cons, hx, bs_len]; omega
  unfold wordsL; rw [hf]
theorem cut_none (s : ByteArray) (h0 : ((bs s).take s.size).findIdx? (· == 32) = none) : wordsL s = [s] := by
  rw [← bs_len s, List.take_length] at h0
  unfold wordsL; rw [h0]
def WordsPost (ws : List ByteArray) (w : World) (en : Ending) (w' : World) : Prop := ∃ g, en = .returned (.slice (some ⟨g, 0, none⟩) ws.length ws.length) ∧ TextR w' g ws ∧ w.heap.size ≤ g ∧ g < w'.heap.size ∧ Keep (fun _ => False) w w'
set_option maxRecDepth 100000 in
set_option maxHeartbeats 1000000 in
theorem refwords_any (s : ByteArray) (w : World) (hs : s.size ≤ 1000000) :
    Calls Tryz.prog 128 #[.string s] w (WordsPost (wordsL s) w) := by
  obtain ⟨R, hR⟩ : ∃ R, R = wordsL s := ⟨_, rfl⟩
  rw [← hR]
  have HR := Lib.hid hR; clear hR
  go_enter Tryz.func128, Tryz.ntmps128
  go_wp2_with fail
  go_loop [3] (fun i => ∃ k : Nat, k ≤ s.size ∧ i = .int .i64 k ∧ Hid (((bs s).take k).findIdx? (· == 32) = none)) (fun i => s.size - (intOf i).toNat)
  case atStart => exact ⟨0, Nat.zero_le _, rfl, rfl⟩
  case round =>
    obtain ⟨k, hk, rfl, HG⟩ := hrel
    by_cases hlt : k < s.size
    · have hts := take_snoc s k hlt
      have hi0 : (0 : Int) ≤ (k : Int) := by omega
      have hi1 : (k : Int) < (s.size : Int) := by omega
      have HTS := Lib.hid hts
      clear hts
      by_cases hx : s[k] = 32
      · have ht : ((s[k].toNat : Int) == 32) = true := by rw [hx]; rfl
        have HX := Lib.hid hx; clear hx
        have hb2 : (0 : Int) ≤ (k : Int) + 1 := by omega
        have hb3 : (k : Int) + 1 ≤ (s.size : Int) := by omega
        go_wp2_with fail
        go_region
        go_wp2_with fail
        have hw := cut_at s k hlt HG.out HX.out
        have HRR := HR.out
        rw [hw] at HRR
        go_ret
        rw [HRR]
        refine ⟨w.heap.size, rfl, ?_, Nat.le_refl _, by simp, ?_⟩
        · exact textR_blk (t := 9) ((Blk.new w #[.string (s.extract 0 k), .string (s.extract (k + 1) s.size)] 9))
        · exact ((Keep.refl _ w).alloc _).drew
      · have ht : ((s[k].toNat : Int) == 32) = false := by
          rw [beq_eq_false_iff_ne]; intro h; apply hx; rw [← UInt8.toNat_inj]; exact_mod_cast h
        have HX := Lib.hid hx; clear hx
        go_wp2_with fail
        exact ⟨⟨k + 1, by omega, by go_num, cut_snoc s k hlt HG.out HX.out⟩, by simp [intOf]; omega⟩
    · obtain rfl : k = s.size := by omega
      go_wp2_with fail
      have HRR := HR.out
      rw [cut_none s HG.out] at HRR
      go_ret
      rw [HRR]
      refine ⟨w.heap.size, rfl, ?_, Nat.le_refl _, by simp, ?_⟩
      · exact textR_blk (t := 9) ((Blk.new w #[.string s] 9))
      · exact (Keep.refl _ w).alloc _
end Go.Proofs.YtgmmjhelcpgakaaGreatDoor
/- The reference of expressions: row, sign. -/
namespace Go.Proofs.YtgmmjhelcpgakaaGreatDoor
open Go.RowKit
set_option linter.unusedVariables false
set_option linter.unusedSimpArgs false

abbrev wOrElse : ByteArray := ⟨#[111, 114, 32, 101, 108, 115, 101]⟩
abbrev wAndThen : ByteArray := ⟨#[97, 110, 100, 32, 116, 104, 101, 110]⟩
/-- A level's signs, and their operations. -/
def rows (k : Nat) : List (ByteArray × Nat) :=
  if k = 1 then [(gEq, 19), (gNe, 20), (gLe, 22), (gGe, 24), (gLt, 21), (gGt, 23)]
  else if k = 2 then [(gPlus, 15), (gMinus, 16), (wOrElse, 18), (wOr, 17)]
  else [(gStar, 10), (wDiv, 11), (wMod, 12), (wAndThen, 14), (wAnd, 13)]
def matchS (l : List TokL) (i : Nat) (ws : List ByteArray) : Bool := isT l i (ws.getD 0 eS) && (ws.length == 1 || isT l (i + 1) (ws.getD 1 eS))
def signGo (l : List TokL) (i : Nat) : List (ByteArray × Nat) → Nat × Nat
  | [] => (0, 0)
  | (s, o) :: r => if matchS l i (wordsL s) then (o, (wordsL s).length) else signGo l i r
theorem words_one (s : ByteArray) (h : (bs s).contains 32 = false) : wordsL s = [s] := by
  unfold wordsL
  have : (bs s).findIdx? (· == 32) = none := by
    rw [List.findIdx?_eq_none_iff]
    intro x hx
    rw [beq_eq_false_iff_ne]; rintro rfl
    rw [List.contains_eq_mem] at h; simp at h; exact h hx
  rw [this]
theorem words_oe : wordsL wOrElse = [wOr, wElse] := by unfold wordsL; rfl
theorem words_at : wordsL wAndThen = [wAnd, wThen] := by unfold wordsL; rfl
theorem signGo_eq (k : Nat) (hk : k = 1 ∨ k = 2 ∨ k = 3) (l : List TokL) (i : Nat) : signGo l i (rows k) = signAt k l i := by
  have m1 : ∀ s, matchS l i [s] = isT l i s := fun s => by unfold matchS; simp
  have m2 : ∀ s s', matchS l i [s, s'] = (isT l i s && isT l (i + 1) s') := fun s s' => by unfold matchS; simp
  rcases hk with rfl | rfl | rfl
  · unfold rows signAt
    rw [if_pos rfl, if_pos rfl]
    simp only [signGo, words_one gEq (by decide), words_one gNe (by decide), words_one gLe (by decide), words_one gGe (by decide), words_one gLt (by decide), words_one gGt (by decide), m1, List.length_singleton]
  · show signGo l i [(gPlus, 15), (gMinus, 16), (wOrElse, 18), (wOr, 17)] = (if isT l i gPlus then (15, 1) else if isT l i gMinus then (16, 1) else if isT l i wOr && isT l (i + 1) wElse then (18, 2) else if isT l i wOr then (17, 1) else (0, 0))
    simp only [signGo, words_one gPlus (by decide), words_one gMinus (by decide), words_oe, words_one wOr (by decide), m1, m2, List.length_singleton, List.length_cons, List.length_nil, Nat.zero_add, Nat.reduceAdd]
  · show signGo l i [(gStar, 10), (wDiv, 11), (wMod, 12), (wAndThen, 14), (wAnd, 13)] = (if isT l i gStar then (10, 1) else if isT l i wDiv then (11, 1) else if isT l i wMod then (12, 1) else if isT l i wAnd && isT l (i + 1) wThen then (14, 2) else if isT l i wAnd then (13, 1) else (0, 0))
    simp only [signGo, words_one gStar (by decide), words_one wDiv (by decide), words_one wMod (by decide), words_at, words_one wAnd (by decide), m1, m2, List.length_singleton, List.length_cons, List.length_nil, Nat.zero_add, Nat.reduceAdd]
def rowSC (k : Nat) : Array Value := ((rows k).map fun x => Value.string x.1).toArray
def rowOC (k : Nat) : Array Value := ((rows k).map fun x => Value.int .i64 (x.2 : Nat)).toArray
set_option maxRecDepth 100000 in
set_option maxHeartbeats 1000000 in
theorem refrow_any (k : Nat) (hk : k = 1 ∨ k = 2 ∨ k = 3) (w : World) :
    Calls Tryz.prog 68 #[.int .i64 0, .int .i64 k] w fun e w' => e = .returned (.tuple #[.slice (some ⟨w.heap.size, 0, none⟩) (rows k).length (rows k).length, .slice (some ⟨w.heap.size + 1, 0, none⟩) (rows k).length (rows k).length]) ∧ w' = (w.alloc (.cells (rowSC k) 9)).alloc (.cells (rowOC k) 3) := by
  rcases hk with rfl | rfl | rfl
  all_goals
    go_enter Tryz.func68, Tryz.ntmps68
    go_wp2_with fail
    go_ret2
    exact ⟨rfl, rfl⟩
theorem words_len (s : ByteArray) : (wordsL s).length = 1 ∨ (wordsL s).length = 2 := by
  unfold wordsL; split <;> simp
set_option maxRecDepth 100000 in
set_option maxHeartbeats 4000000 in
theorem refsign_any (g c : Nat) (l : List TokL) (k : Nat) (hk : k = 1 ∨ k = 2 ∨ k = 3) (i : Nat) (hi : i ≤ 1900000) (w : World) (h : Tks w g l) :
    Calls Tryz.prog 95 #[.int .i64 0, .int .i64 k, .slice (some ⟨g, 0, none⟩) l.length c, .int .i64 i] w fun e w' => e = .returned (.tuple #[.int .i64 ((signAt k l i).1 : Nat), .int .i64 ((signAt k l i).2 : Nat)]) ∧ Keep (fun _ => False) w w' := by
  have HS := signGo_eq k hk l i
  obtain ⟨R, hR⟩ : ∃ R, R = signAt k l i := ⟨_, rfl⟩
  rw [← hR] at HS ⊢
  have HROW := Lib.hid (refrow_any k hk w)
  have HIS : Hid (∀ (j : Nat) (s : ByteArray) W, j ≤ 2000000 → Keep (fun _ => False) w W → Calls Tryz.prog 94 #[.slice (some ⟨g, 0, none⟩) l.length c, .int .i64 j, .string s] W fun e w' => e = .returned (.bool (isT l j s)) ∧ Keep (fun _ => False) W w') := fun j s W hj hk => refIs_any g c l j hj s W (h.keep hk)
  have hn10 : (rows k).length ≤ 10 := by unfold rows; split <;> (try split) <;> decide
  have hss : ∀ x ∈ rows k, x.1.size ≤ 1000000 := by
    have : (rows k).all (fun x => decide (x.1.size ≤ 1000000)) = true := by unfold rows; split <;> (try split) <;> decide
    intro x hx; simpa using List.all_eq_true.1 this x hx
  obtain ⟨n, hn⟩ : ∃ n, n = (rows k).length := ⟨_, rfl⟩
  rw [← hn] at HROW hn10
  have HSS := Lib.hid hss; have HN := Lib.hid hn; have HG := Lib.hid HS
  clear hR HS hss hn h
  go_enter Tryz.func95, Tryz.ntmps95
  go_wp2_with fail
  refine HROW.out.mono ?_
  rintro e W ⟨rfl, hW⟩
  have HK := Lib.hid (show Keep (fun _ => False) w W by rw [hW]; exact ((Keep.refl _ w).alloc _).alloc _)
  have HBS := Lib.hid (show Blk W w.heap.size (rowSC k) 9 by rw [hW]; exact (Blk.new _ _ _).alloc _)
  have HBO := Lib.hid (show Blk W (w.heap.size + 1) (rowOC k) 3 by rw [hW]; exact Blk.new' (by simp) _ _)
  clear hW
  go_wp2_with fail
  go_loopg [12] n (fun m v12 wr => ∃ j : Nat, j ≤ n ∧ m = n - j ∧ v12 = .int .i64 j ∧ Keep (fun _ => False) W wr ∧ Hid (signGo l i ((rows k).drop j) = R))
  case atStart => exact ⟨0, Nat.zero_le _, by omega, rfl, Keep.refl _ _, HG.out⟩
  case round =>
    obtain ⟨j, hj, hm, rfl, hkp, HGO⟩ := hrel
    have HKP := Lib.hid hkp
    have HM := Lib.hid hm
    clear hkp hm
    by_cases hlt : j < n
    · have hjl : j < (rows k).length := by rw [← HN.out]; exact hlt
      obtain ⟨x, hx⟩ : ∃ x, (rows k)[j]? = some x := ⟨_, List.getElem?_eq_getElem hjl⟩
      obtain ⟨s, o⟩ := x
      have hd : (rows k).drop j = (s, o) :: (rows k).drop (j + 1) := by
        rw [List.drop_eq_getElem_cons hjl]
        rw [List.getElem?_eq_getElem hjl] at hx
        injection hx with hx
        rw [hx]
      have hgo := HGO.out
      rw [hd, signGo] at hgo
      have cS : wr.cell? ⟨w.heap.size, j, none⟩ = some (.string s) := (HKP.out.blk HBS.out (fun h => h)).at_ j (by unfold rowSC; simp [hx])
      have cO : wr.cell? ⟨w.heap.size + 1, j, none⟩ = some (.int .i64 (o : Nat)) := (HKP.out.blk HBO.out (fun h => h)).at_ j (by unfold rowOC; simp [hx])
      have hsz := HSS.out _ (List.mem_of_getElem? hx)
      have HW := Lib.hid (refwords_any s wr hsz)
      have hlen := words_len s
      obtain ⟨ws, hws⟩ : ∃ ws, ws = wordsL s := ⟨_, rfl⟩
      rw [← hws] at hgo HW hlen
      have HGO2 := Lib.hid hgo
      have hi0 : (0 : Int) ≤ (j : Int) := by omega
      have hi1 : (j : Int) < (n : Int) := by omega
      clear hd hgo hx hsz hws hjl
      go_wp2_with fail
      refine HW.out.mono ?_
      rintro e w1 ⟨g1, rfl, htx, hg1, hg2, hk1⟩
      have HK1 := Lib.hid (HKP.out.trans hk1)
      have HKW := Lib.hid (HK.out.trans (HKP.out.trans hk1))
      have hcO := hk1.cell cO (fun h => h)
      rcases hlen with hl | hl
      all_goals
        have t0 := htx 0 (by rw [hl]; decide)
        rw [hl]
      · obtain ⟨s0, rfl⟩ : ∃ s0, ws = [s0] := List.length_eq_one_iff.1 hl
        have hgo := HGO2.out
        unfold matchS at hgo
        simp only [List.getD_cons_zero, List.length_singleton, beq_self_eq_true, Bool.true_or, Bool.and_true] at hgo t0
        have hwr : IntKind.i64.wrap ((i : Int) + 1) = ((i + 1 : Nat) : Int) := by rw [IntWalk.i64_in _ (by omega)]; omega
        have HGO3 := Lib.hid hgo
        clear hgo htx hl hk1 cS cO
        go_wp2_with fail
        refine (HIS.out i s0 w1 (by omega) HKW.out).mono ?_
        rintro e w2 ⟨rfl, hk2⟩
        have hcO2 := hk2.cell hcO (fun h => h)
        have hgo := HGO3.out
        cases hb : isT l i s0 with
        | true =>
          rw [hb, if_pos rfl] at hgo
          have HGO4 := Lib.hid hgo
          have HK2 := Lib.hid hk2
          clear hgo hb hk2 hcO
          go_wp2_with fail
          go_ret2
          exact ⟨by rw [← HGO4.out]; rfl, HKW.out.trans HK2.out⟩
        | false =>
          rw [hb, if_neg (by decide)] at hgo
          have HGO4 := Lib.hid hgo
          have HK2 := Lib.hid hk2
          clear hgo hb hk2 hcO
          go_wp2_with fail
          go_roundg (n - (j + 1))
          case measure => have := HM.out; omega
          case rel => exact ⟨j + 1, by omega, rfl, by go_num, HK1.out.trans HK2.out, HGO4.out⟩
      · obtain ⟨s0, s1, rfl⟩ : ∃ s0 s1, ws = [s0, s1] := by
          match ws, hl with
          | [a, b], _ => exact ⟨a, b, rfl⟩
        have t1 := htx 1 (by simp)
        have hgo := HGO2.out
        unfold matchS at hgo
        simp only [List.getD_cons_zero, List.getD_cons_succ, List.length_cons, List.length_nil, Nat.zero_add, Nat.reduceAdd, show ((2 : Nat) == 1) = false from rfl, Bool.false_or] at hgo t0 t1
        have hwr : IntKind.i64.wrap ((i : Int) + 1) = ((i + 1 : Nat) : Int) := by rw [IntWalk.i64_in _ (by omega)]; omega
        have HGO3 := Lib.hid hgo
        clear hgo htx hl hk1 cS cO
        go_wp2_with fail
        refine (HIS.out i s0 w1 (by omega) HKW.out).mono ?_
        rintro e w2 ⟨rfl, hk2⟩
        have hcO2 := hk2.cell hcO (fun h => h)
        have t12 := hk2.cell t1 (fun h => h)
        have hgo := HGO3.out
        have HK2 := Lib.hid hk2
        clear hk2 hcO t1 t0
        cases hb : isT l i s0 with
        | false =>
          rw [hb, Bool.false_and, if_neg (by decide)] at hgo
          have HGO4 := Lib.hid hgo
          clear hgo hb
          go_wp2_with fail
          go_roundg (n - (j + 1))
          case measure => have := HM.out; omega
          case rel => exact ⟨j + 1, by omega, rfl, by go_num, HK1.out.trans HK2.out, HGO4.out⟩
        | true =>
          rw [hb, Bool.true_and] at hgo
          have HGO4 := Lib.hid hgo
          clear hgo hb
          go_wp2_with fail
          refine (HIS.out (i + 1) s1 w2 (by omega) (HKW.out.trans HK2.out)).mono ?_
          rintro e w3 ⟨rfl, hk3⟩
          have hcO3 := hk3.cell hcO2 (fun h => h)
          have HK3 := Lib.hid hk3
          have hgo := HGO4.out
          clear hk3 hcO2 t12
          cases hb : isT l (i + 1) s1 with
          | true =>
            rw [hb, if_pos rfl] at hgo
            have HGO5 := Lib.hid hgo
            clear hgo hb
            go_wp2_with fail
            go_ret2
            exact ⟨by rw [← HGO5.out]; rfl, (HKW.out.trans HK2.out).trans HK3.out⟩
          | false =>
            rw [hb, if_neg (by decide)] at hgo
            have HGO5 := Lib.hid hgo
            clear hgo hb
            go_wp2_with fail
            go_roundg (n - (j + 1))
            case measure => have := HM.out; omega
            case rel => exact ⟨j + 1, by omega, rfl, by go_num, (HK1.out.trans HK2.out).trans HK3.out, HGO5.out⟩
    · obtain rfl : j = n := by omega
      have hgo := HGO.out
      rw [HN.out, List.drop_length, signGo] at hgo
      have HGO2 := Lib.hid hgo
      clear hgo
      go_wp2_with fail
      go_ret2
      exact ⟨by rw [← HGO2.out]; rfl, HK.out.trans HKP.out⟩
end Go.Proofs.YtgmmjhelcpgakaaGreatDoor
/- The reference of expressions: what its functions leave; places. -/
namespace Go.Proofs.YtgmmjhelcpgakaaGreatDoor
open Go.RowKit
set_option linter.unusedVariables false
set_option linter.unusedSimpArgs false

theorem Dv.le_len {l : List TokL} {g : Tg} {i : Nat} {e : Ex} {j : Nat} (h : Dv l g i e j) (hi : i ≤ l.length) : j ≤ l.length := by
  have ha := h.adv
  rcases Nat.lt_or_ge i j with h1 | h1
  · have h2 := h.kinds (j - 1) (by omega) (by omega)
    have := tk_kind_in h2
    omega
  · omega
theorem rm_le_len {l : List TokL} {f : Nat} {g : Tg} {i : Nat} {e : Ex} {j : Nat} (h : rm l f g i = some (.ok e j)) (hi : i ≤ l.length) : j ≤ l.length := (Dv.of_rm l f g i e j h).le_len hi
def DoesL (l : List TokL) (g c f : Nat) : Prop := ∀ (k i : Nat) (w : World) (r : Res), 1 ≤ k → k ≤ 4 → i ≤ l.length → Tks w g l → rm l f (.lev k) i = some r → Calls Tryz.prog 53 #[.int .i64 0, .int .i64 k, .slice (some ⟨g, 0, none⟩) l.length c, .int .i64 i] w (GPost r w)
def DoesF (l : List TokL) (g c f : Nat) : Prop := ∀ (i : Nat) (w : World) (r : Res), i ≤ l.length → Tks w g l → rm l f .fac i = some r → Calls Tryz.prog 93 #[.int .i64 0, .slice (some ⟨g, 0, none⟩) l.length c, .int .i64 i] w (GPost r w)
def DoesN (l : List TokL) (g c f : Nat) : Prop := ∀ (i : Nat) (w : World) (r : Res), i ≤ l.length → Tks w g l → rm l f .named i = some r → Calls Tryz.prog 127 #[.int .i64 0, .slice (some ⟨g, 0, none⟩) l.length c, .int .i64 i] w (GPost r w)
def DoesC (l : List TokL) (g c f : Nat) : Prop := ∀ (name : ByteArray) (i : Nat) (w : World) (r : Res), i ≤ l.length → Tks w g l → (if isT l i gClose then some (.ok (.mk 7 0 name eS []) (i + 1)) else rm l f (.callL name []) i) = some r → Calls Tryz.prog 150 #[.int .i64 0, .string name, .slice (some ⟨g, 0, none⟩) l.length c, .int .i64 i] w (GPost r w)
theorem rm_bad {l : List TokL} : ∀ {f : Nat} {g : Tg} {i : Nat} {c : Nat} {p : Pos3}, rm l f g i = some (.bad c p) → c ≠ 0 := by
  intro f
  induction f with
  | zero => intro g i c p h; cases h
  | succ f ih =>
    intro g i c p h
    have wr : ∀ j, (some (wrongAt l j) : Option Res) = some (.bad c p) → c ≠ 0 := by
      intro j h; injection h with h; unfold wrongAt at h; injection h with h _; rw [← h]; split <;> decide
    have nx : ∀ {o : Option Res} {K : Ex → Nat → Option Res}, nxt o K = some (.bad c p) → (o = some (.bad c p)) ∨ ∃ e j, K e j = some (.bad c p) := by
      intro o K h
      rcases nxt_some h with ⟨c', p', h1, h2⟩ | ⟨e, j, h1, h2⟩
      · left; rw [h2]; exact h1
      · right; exact ⟨e, j, h2⟩
    cases g with
    | lev k =>
      rw [rm] at h
      split at h
      · exact ih h
      · rcases nx h with h | ⟨e, j, h⟩ <;> exact ih h
    | levL k x =>
      rw [rm] at h
      split at h
      · injection h with h; cases h
      · rcases nx h with h | ⟨e, j, h⟩
        · exact ih h
        · split at h
          · injection h with h; cases h
          · exact ih h
    | fac =>
      rw [rm] at h
      split at h
      · rcases nx h with h | ⟨e, j, h⟩
        · exact ih h
        · injection h with h; cases h
      split at h
      · rcases nx h with h | ⟨e, j, h⟩
        · exact ih h
        · split at h
          · injection h with h; cases h
          · exact wr _ h
      split at h
      · injection h with h; cases h
      split at h
      · injection h with h; cases h
      split at h
      · injection h with h; cases h
      split at h
      · injection h with h; cases h
      exact ih h
    | named =>
      rw [rm] at h
      split at h
      · exact wr _ h
      split at h
      · split at h
        · injection h with h; cases h
        · exact ih h
      split at h
      · rcases nx h with h | ⟨e, j, h⟩
        · exact ih h
        · split at h
          · injection h with h; cases h
          · exact wr _ h
      split at h
      · split at h
        · exact wr _ h
        · injection h with h; cases h
      injection h with h; cases h
    | callL name es =>
      rw [rm] at h
      rcases nx h with h | ⟨e, j, h⟩
      · exact ih h
      · split at h
        · injection h with h; cases h
        split at h
        · exact ih h
        · exact wr _ h
/-- A got one, written out. -/
theorem gotA_ok (e : Ex) (j : Nat) (A : Option Addr) (cc : Nat) : gotA (.ok e j) A cc = #[.int .i64 e.op, .int .i64 e.num, .string e.name, .string e.field, .slice A e.list.length cc, .int .i64 (j : Nat), .int .i64 0, .int .i64 0, .int .i64 0, .int .i64 0] := rfl
theorem gotA_bad (k : Nat) (p : Pos3) (A : Option Addr) (cc : Nat) : gotA (.bad k p) A cc = #[.int .i64 0, .int .i64 0, .string ⟨#[]⟩, .string ⟨#[]⟩, .slice A 0 cc, .int .i64 0, .int .i64 (k : Nat), .int .i64 p.1, .int .i64 p.2.1, .int .i64 p.2.2] := rfl
end Go.Proofs.YtgmmjhelcpgakaaGreatDoor
