/- Package exprpas: printer.expr, values and names. -/
import Derived.Test.YtgmmjhelcpgakaaGreatDoorGQ
namespace Go.Proofs.YtgmmjhelcpgakaaGreatDoor
open Go.RowKit
set_option linter.unusedVariables false
set_option linter.unusedSimpArgs false

/-- An operand that lies below B. -/
structure Child (B : Nat) (w : World) (ba off : Nat) (e : Ex) (A : Option Addr) (c : Nat) : Prop where
  lt : ba < B
  cells : ∀ j, j < 5 → w.cell? ⟨ba, off + j, none⟩ = (exA e A c)[j]?
theorem Child.get {B : Nat} {w W : World} {ba off : Nat} {e : Ex} {A : Option Addr} {c : Nat} (h : Child B w ba off e A c) (hk : Keep (B ≤ ·) w W) :
    W.cell? ⟨ba, off, none⟩ = some (.int .i64 e.op) ∧ W.cell? ⟨ba, off + 1, none⟩ = some (.int .i64 e.num) ∧ W.cell? ⟨ba, off + 2, none⟩ = some (.string e.name) ∧ W.cell? ⟨ba, off + 3, none⟩ = some (.string e.field) ∧ W.cell? ⟨ba, off + 4, none⟩ = some (.slice A e.list.length c) ∧ ba < W.heap.size := by
  have hb : ¬ B ≤ ba := by have := h.lt; omega
  have g : ∀ j v, j < 5 → (exA e A c)[j]? = some v → W.cell? ⟨ba, off + j, none⟩ = some v := fun j v hj hv => hk.cell ((h.cells j hj).trans hv) hb
  exact ⟨g 0 _ (by decide) rfl, g 1 _ (by decide) rfl, g 2 _ (by decide) rfl, g 3 _ (by decide) rfl, g 4 _ (by decide) rfl, by have := World.block_lt_of_cell? _ _ (g 0 _ (by decide) rfl); exact this⟩
/-- What is asked of an operand's printing, and of its printing at a place. -/
def ChildE (B b m : Nat) (w : World) (e : Ex) (A : Option Addr) (c : Nat) : Prop := ∀ W st', SK B b w W → Snk B W b st'.1 m st'.2 →
  Calls Tryz.prog 29 #[.agg #[.pointer (some ⟨b, 0, none⟩)], .agg #[.int .i64 e.op, .int .i64 e.num, .string e.name, .string e.field, .slice A e.list.length c]] W (PrP B b m (putsS m st' (pcs e)) W)
theorem ChildE.at_ {B b m : Nat} {w : World} {e : Ex} {A : Option Addr} {c : Nat} (h : ChildE B b m w e A c) (W : World) (st' : Bs × Bool) (k : Nat) (z : Int) (hz : z = (k : Int)) (hk : SK B b w W) (hs : Snk B W b st'.1 m st'.2) :
    Calls Tryz.prog 58 #[.agg #[.pointer (some ⟨b, 0, none⟩)], .agg #[.int .i64 e.op, .int .i64 e.num, .string e.name, .string e.field, .slice A e.list.length c], .int .i64 z] W (PrP B b m (putsS m st' (atP k e.op (pcs e))) W) :=
  at_any B b m e.op e.num e.name e.field e.list.length A c (pcs e) k z hz st' W hs (Lib.hid fun W2 st2 hk2 hs2 => h W2 st2 (hk.trans hk2) hs2)
theorem boolIx0 (W : World) : (Instr.index 119 (.agg #[.string ⟨#[102, 97, 108, 115, 101]⟩, .string ⟨#[116, 114, 117, 101]⟩]) (.int .i64 0)).run Tryz.prog W = .ok (.string ⟨#[102, 97, 108, 115, 101]⟩) W := by kernel_rfl
theorem boolIx1 (W : World) : (Instr.index 119 (.agg #[.string ⟨#[102, 97, 108, 115, 101]⟩, .string ⟨#[116, 114, 117, 101]⟩]) (.int .i64 1)).run Tryz.prog W = .ok (.string ⟨#[116, 114, 117, 101]⟩) W := by kernel_rfl
set_option maxRecDepth 100000 in
set_option maxHeartbeats 4000000 in
theorem pe1 (B b m : Nat) (n : Int) (nm f : ByteArray) (A : Option Addr) (c : Nat) (st : Bs × Bool) (w : World) (h : Snk B w b st.1 m st.2) (h0 : -9223372036854775808 ≤ n) (h1 : n ≤ 9223372036854775807) (hg : Hid (∀ W, Keep (fun _ => False) w W → Lib.TabIs Tryz.prog W "internal/strconv.uint64pow10" .u64 Lib.pow10Tab)) :
    Calls Tryz.prog 29 #[.agg #[.pointer (some ⟨b, 0, none⟩)], .agg #[.int .i64 1, .int .i64 n, .string nm, .string f, .slice A 0 c]] w (PrP B b m (putsS m st ([[Lib.itoa n]])) w) := by
  have HDG := Lib.hid (fun W h => digits_any n h0 h1 W h)
  obtain ⟨D, hD⟩ : ∃ D, D = Lib.itoa n := ⟨_, rfl⟩
  rw [← hD] at HDG ⊢
  clear hD h0 h1
  have HNE := Lib.hid h.lt
  have HK0 := Lib.hid (show Keep (fun _ => False) w ((w.alloc (.cells #[.pointer (some ⟨b, 0, none⟩)] 72)).alloc (.cells #[.int .i64 1, .int .i64 n, .string nm, .string f, .slice A 0 c] 25)) from ((Keep.refl _ w).alloc _).alloc _)
  have HB0 := Lib.hid (show Blk ((w.alloc (.cells #[.pointer (some ⟨b, 0, none⟩)] 72)).alloc (.cells #[.int .i64 1, .int .i64 n, .string nm, .string f, .slice A 0 c] 25)) w.heap.size #[.pointer (some ⟨b, 0, none⟩)] 72 from (Blk.new w _ _).alloc _)
  have HB1 := Lib.hid (show Blk ((w.alloc (.cells #[.pointer (some ⟨b, 0, none⟩)] 72)).alloc (.cells #[.int .i64 1, .int .i64 n, .string nm, .string f, .slice A 0 c] 25)) (w.heap.size + 1) #[.int .i64 1, .int .i64 n, .string nm, .string f, .slice A 0 c] 25 from Blk.new' (by simp) _ _)
  have HS0 := Lib.hid (h.keepF HK0.out)
  have HQ0 := Lib.hid (SK.refl B b ((w.alloc (.cells #[.pointer (some ⟨b, 0, none⟩)] 72)).alloc (.cells #[.int .i64 1, .int .i64 n, .string nm, .string f, .slice A 0 c] 25)))
  clear h
  go_enter Tryz.func29, Tryz.ntmps29
  go_wp2_with fail
  go_region_with (first | (go_at_call 56; refine (HDG.out _ (hg.out _ (by first | exact HK0.out.drew | exact HK0.out))).mono ?_; rintro e w1 ⟨rfl, hk1⟩; have HKD := Lib.hid (show Keep (fun _ => False) _ w1 by first | exact (Keep.refl _ _).drew.trans hk1 | exact hk1); clear hk1; have p0 := (HKD.out.blk HB0.out (fun h => h)).at_ 0 (v := .pointer (some ⟨b, 0, none⟩)) rfl; have pl0 := (HKD.out.blk HB0.out (fun h => h)).lt; have p1 := (HKD.out.blk HB1.out (fun h => h)).all5) | (go_at_call 55; refine (put_arr B b _ 1 [⟨D.toArray⟩] st m _ (HS0.out.keepF (HKD.out.alloc _)) (Blk.new' (by simp) _ _) (by simp)).mono ?_; rintro e w2 ⟨rfl, hs, hk⟩; have HS2 := Lib.hid hs; have HQ2 := Lib.hid (show SK B b _ w2 from (SK.ofF (HKD.out.alloc _)).trans hk); clear hs hk))
  all_goals
    go_wp2_with fail
    go_end0
    refine ⟨rfl, ?_, (SK.ofF HK0.out).trans HQ2.out⟩
    have hfin := HS2.out
    rw [show ([⟨D.toArray⟩] : List ByteArray).map bs = [D] by simp [bs]] at hfin
    exact hfin
set_option maxRecDepth 100000 in
set_option maxHeartbeats 4000000 in
theorem pe3 (B b m : Nat) (n : Int) (nm f : ByteArray) (A : Option Addr) (c : Nat) (st : Bs × Bool) (w : World) (h : Snk B w b st.1 m st.2) (h0 : 0 ≤ n) (h1 : n ≤ 255) (hg : Hid (∀ W, Keep (fun _ => False) w W → Lib.TabIs Tryz.prog W "internal/strconv.uint64pow10" .u64 Lib.pow10Tab)) :
    Calls Tryz.prog 29 #[.agg #[.pointer (some ⟨b, 0, none⟩)], .agg #[.int .i64 3, .int .i64 n, .string nm, .string f, .slice A 0 c]] w (PrP B b m (putsS m st ([[charP n]])) w) := by
  have HDG := Lib.hid (fun W h => charPas_any n h0 h1 W h)
  obtain ⟨D, hD⟩ : ∃ D, D = charP n := ⟨_, rfl⟩
  rw [← hD] at HDG ⊢
  clear hD h0 h1
  have HNE := Lib.hid h.lt
  have HK0 := Lib.hid (show Keep (fun _ => False) w ((w.alloc (.cells #[.pointer (some ⟨b, 0, none⟩)] 72)).alloc (.cells #[.int .i64 3, .int .i64 n, .string nm, .string f, .slice A 0 c] 25)) from ((Keep.refl _ w).alloc _).alloc _)
  have HB0 := Lib.hid (show Blk ((w.alloc (.cells #[.pointer (some ⟨b, 0, none⟩)] 72)).alloc (.cells #[.int .i64 3, .int .i64 n, .string nm, .string f, .slice A 0 c] 25)) w.heap.size #[.pointer (some ⟨b, 0, none⟩)] 72 from (Blk.new w _ _).alloc _)
  have HB1 := Lib.hid (show Blk ((w.alloc (.cells #[.pointer (some ⟨b, 0, none⟩)] 72)).alloc (.cells #[.int .i64 3, .int .i64 n, .string nm, .string f, .slice A 0 c] 25)) (w.heap.size + 1) #[.int .i64 3, .int .i64 n, .string nm, .string f, .slice A 0 c] 25 from Blk.new' (by simp) _ _)
  have HS0 := Lib.hid (h.keepF HK0.out)
  have HQ0 := Lib.hid (SK.refl B b ((w.alloc (.cells #[.pointer (some ⟨b, 0, none⟩)] 72)).alloc (.cells #[.int .i64 3, .int .i64 n, .string nm, .string f, .slice A 0 c] 25)))
  clear h
  go_enter Tryz.func29, Tryz.ntmps29
  go_wp2_with fail
  go_region_with (first | (go_at_call 57; refine (HDG.out _ (hg.out _ (by first | exact HK0.out.drew | exact HK0.out))).mono ?_; rintro e w1 ⟨rfl, hk1⟩; have HKD := Lib.hid (show Keep (fun _ => False) _ w1 by first | exact (Keep.refl _ _).drew.trans hk1 | exact hk1); clear hk1; have p0 := (HKD.out.blk HB0.out (fun h => h)).at_ 0 (v := .pointer (some ⟨b, 0, none⟩)) rfl; have pl0 := (HKD.out.blk HB0.out (fun h => h)).lt; have p1 := (HKD.out.blk HB1.out (fun h => h)).all5) | (go_at_call 55; refine (put_arr B b _ 1 [⟨D.toArray⟩] st m _ (HS0.out.keepF (HKD.out.alloc _)) (Blk.new' (by simp) _ _) (by simp)).mono ?_; rintro e w2 ⟨rfl, hs, hk⟩; have HS2 := Lib.hid hs; have HQ2 := Lib.hid (show SK B b _ w2 from (SK.ofF (HKD.out.alloc _)).trans hk); clear hs hk))
  all_goals
    go_wp2_with fail
    go_end0
    refine ⟨rfl, ?_, (SK.ofF HK0.out).trans HQ2.out⟩
    have hfin := HS2.out
    rw [show ([⟨D.toArray⟩] : List ByteArray).map bs = [D] by simp [bs]] at hfin
    exact hfin
set_option maxRecDepth 100000 in
set_option maxHeartbeats 4000000 in
theorem pe2f (B b m : Nat) (nm f : ByteArray) (A : Option Addr) (c : Nat) (st : Bs × Bool) (w : World) (h : Snk B w b st.1 m st.2) :
    Calls Tryz.prog 29 #[.agg #[.pointer (some ⟨b, 0, none⟩)], .agg #[.int .i64 2, .int .i64 (0 : Int), .string nm, .string f, .slice A 0 c]] w (PrP B b m (putsS m st ([[bs wFalse]])) w) := by
  have ix := boolIx0
  have HNE := Lib.hid h.lt
  have HK0 := Lib.hid (show Keep (fun _ => False) w ((w.alloc (.cells #[.pointer (some ⟨b, 0, none⟩)] 72)).alloc (.cells #[.int .i64 2, .int .i64 (0 : Int), .string nm, .string f, .slice A 0 c] 25)) from ((Keep.refl _ w).alloc _).alloc _)
  have HB0 := Lib.hid (show Blk ((w.alloc (.cells #[.pointer (some ⟨b, 0, none⟩)] 72)).alloc (.cells #[.int .i64 2, .int .i64 (0 : Int), .string nm, .string f, .slice A 0 c] 25)) w.heap.size #[.pointer (some ⟨b, 0, none⟩)] 72 from (Blk.new w _ _).alloc _)
  have HB1 := Lib.hid (show Blk ((w.alloc (.cells #[.pointer (some ⟨b, 0, none⟩)] 72)).alloc (.cells #[.int .i64 2, .int .i64 (0 : Int), .string nm, .string f, .slice A 0 c] 25)) (w.heap.size + 1) #[.int .i64 2, .int .i64 (0 : Int), .string nm, .string f, .slice A 0 c] 25 from Blk.new' (by simp) _ _)
  have HS0 := Lib.hid (h.keepF HK0.out)
  have HQ0 := Lib.hid (SK.refl B b ((w.alloc (.cells #[.pointer (some ⟨b, 0, none⟩)] 72)).alloc (.cells #[.int .i64 2, .int .i64 (0 : Int), .string nm, .string f, .slice A 0 c] 25)))
  clear h
  go_enter Tryz.func29, Tryz.ntmps29
  go_wp2_with fail
  go_region_with (go_at_call 55; refine (put_arr B b (w.heap.size + 2) 1 [⟨#[102, 97, 108, 115, 101]⟩] st m _ (HS0.out.keepF (by first | exact (Keep.refl _ _).drew.alloc _ | exact ((Keep.refl _ _).alloc _).drew | exact (Keep.refl _ _).alloc _)) (Blk.new' (by simp) _ _) (by simp)).mono ?_; rintro e w2 ⟨rfl, hs, hk⟩; have HS2 := Lib.hid hs; have HQ2 := Lib.hid (show SK B b _ w2 from (SK.ofF (by first | exact (Keep.refl _ _).drew.alloc _ | exact ((Keep.refl _ _).alloc _).drew | exact (Keep.refl _ _).alloc _)).trans hk); clear hs hk)
  all_goals
    go_wp2_with fail
    go_end0
    refine ⟨rfl, ?_, (SK.ofF HK0.out).trans HQ2.out⟩
    have hfin := HS2.out
    exact hfin
set_option maxRecDepth 100000 in
set_option maxHeartbeats 4000000 in
theorem pe2t (B b m : Nat) (nm f : ByteArray) (A : Option Addr) (c : Nat) (st : Bs × Bool) (w : World) (h : Snk B w b st.1 m st.2) :
    Calls Tryz.prog 29 #[.agg #[.pointer (some ⟨b, 0, none⟩)], .agg #[.int .i64 2, .int .i64 (1 : Int), .string nm, .string f, .slice A 0 c]] w (PrP B b m (putsS m st ([[bs wTrue]])) w) := by
  have ix := boolIx1
  have HNE := Lib.hid h.lt
  have HK0 := Lib.hid (show Keep (fun _ => False) w ((w.alloc (.cells #[.pointer (some ⟨b, 0, none⟩)] 72)).alloc (.cells #[.int .i64 2, .int .i64 (1 : Int), .string nm, .string f, .slice A 0 c] 25)) from ((Keep.refl _ w).alloc _).alloc _)
  have HB0 := Lib.hid (show Blk ((w.alloc (.cells #[.pointer (some ⟨b, 0, none⟩)] 72)).alloc (.cells #[.int .i64 2, .int .i64 (1 : Int), .string nm, .string f, .slice A 0 c] 25)) w.heap.size #[.pointer (some ⟨b, 0, none⟩)] 72 from (Blk.new w _ _).alloc _)
  have HB1 := Lib.hid (show Blk ((w.alloc (.cells #[.pointer (some ⟨b, 0, none⟩)] 72)).alloc (.cells #[.int .i64 2, .int .i64 (1 : Int), .string nm, .string f, .slice A 0 c] 25)) (w.heap.size + 1) #[.int .i64 2, .int .i64 (1 : Int), .string nm, .string f, .slice A 0 c] 25 from Blk.new' (by simp) _ _)
  have HS0 := Lib.hid (h.keepF HK0.out)
  have HQ0 := Lib.hid (SK.refl B b ((w.alloc (.cells #[.pointer (some ⟨b, 0, none⟩)] 72)).alloc (.cells #[.int .i64 2, .int .i64 (1 : Int), .string nm, .string f, .slice A 0 c] 25)))
  clear h
  go_enter Tryz.func29, Tryz.ntmps29
  go_wp2_with fail
  go_region_with (go_at_call 55; refine (put_arr B b (w.heap.size + 2) 1 [⟨#[116, 114, 117, 101]⟩] st m _ (HS0.out.keepF (by first | exact (Keep.refl _ _).drew.alloc _ | exact ((Keep.refl _ _).alloc _).drew | exact (Keep.refl _ _).alloc _)) (Blk.new' (by simp) _ _) (by simp)).mono ?_; rintro e w2 ⟨rfl, hs, hk⟩; have HS2 := Lib.hid hs; have HQ2 := Lib.hid (show SK B b _ w2 from (SK.ofF (by first | exact (Keep.refl _ _).drew.alloc _ | exact ((Keep.refl _ _).alloc _).drew | exact (Keep.refl _ _).alloc _)).trans hk); clear hs hk)
  all_goals
    go_wp2_with fail
    go_end0
    refine ⟨rfl, ?_, (SK.ofF HK0.out).trans HQ2.out⟩
    have hfin := HS2.out
    exact hfin
set_option maxRecDepth 100000 in
set_option maxHeartbeats 4000000 in
theorem pe4 (B b m : Nat) (n : Int) (nm f : ByteArray) (A : Option Addr) (c : Nat) (st : Bs × Bool) (w : World) (h : Snk B w b st.1 m st.2) :
    Calls Tryz.prog 29 #[.agg #[.pointer (some ⟨b, 0, none⟩)], .agg #[.int .i64 4, .int .i64 n, .string nm, .string f, .slice A 0 c]] w (PrP B b m (putsS m st ([[bs nm]])) w) := by
  have HNE := Lib.hid h.lt
  have HK0 := Lib.hid (show Keep (fun _ => False) w ((w.alloc (.cells #[.pointer (some ⟨b, 0, none⟩)] 72)).alloc (.cells #[.int .i64 4, .int .i64 n, .string nm, .string f, .slice A 0 c] 25)) from ((Keep.refl _ w).alloc _).alloc _)
  have HB0 := Lib.hid (show Blk ((w.alloc (.cells #[.pointer (some ⟨b, 0, none⟩)] 72)).alloc (.cells #[.int .i64 4, .int .i64 n, .string nm, .string f, .slice A 0 c] 25)) w.heap.size #[.pointer (some ⟨b, 0, none⟩)] 72 from (Blk.new w _ _).alloc _)
  have HB1 := Lib.hid (show Blk ((w.alloc (.cells #[.pointer (some ⟨b, 0, none⟩)] 72)).alloc (.cells #[.int .i64 4, .int .i64 n, .string nm, .string f, .slice A 0 c] 25)) (w.heap.size + 1) #[.int .i64 4, .int .i64 n, .string nm, .string f, .slice A 0 c] 25 from Blk.new' (by simp) _ _)
  have HS0 := Lib.hid (h.keepF HK0.out)
  have HQ0 := Lib.hid (SK.refl B b ((w.alloc (.cells #[.pointer (some ⟨b, 0, none⟩)] 72)).alloc (.cells #[.int .i64 4, .int .i64 n, .string nm, .string f, .slice A 0 c] 25)))
  clear h
  go_enter Tryz.func29, Tryz.ntmps29
  go_wp2_with fail
  refine (put_arr B b (w.heap.size + 2) 1 [nm] _ m _ (HS0.out.keepF ((Keep.refl _ _).alloc _)) (Blk.new' (by simp) _ _) (by simp)).mono ?_
  rintro e w1 ⟨rfl, hs, hk⟩
  have HS1 := Lib.hid hs
  have HQ1 := Lib.hid (HQ0.out.trans ((SK.ofF ((Keep.refl _ _).alloc _)).trans hk))
  clear hs hk
  have p0 := (HQ1.out.2 _ _ _ (by have := HNE.out; omega) (by decide) HB0.out).at_ 0 (v := .pointer (some ⟨b, 0, none⟩)) rfl
  have pl0 := (HQ1.out.2 _ _ _ (by have := HNE.out; omega) (by decide) HB0.out).lt
  have p1 := (HQ1.out.2 _ _ _ (by have := HNE.out; omega) (by decide) HB1.out).all5
  have pl1 := (HQ1.out.2 _ _ _ (by have := HNE.out; omega) (by decide) HB1.out).lt
  go_wp2_with fail
  go_end0
  refine ⟨rfl, ?_, (SK.ofF HK0.out).trans HQ1.out⟩
  have hfin := HS1.out
  exact hfin
set_option maxRecDepth 100000 in
set_option maxHeartbeats 4000000 in
theorem pe6 (B b m : Nat) (n : Int) (nm f : ByteArray) (A : Option Addr) (c : Nat) (st : Bs × Bool) (w : World) (h : Snk B w b st.1 m st.2) :
    Calls Tryz.prog 29 #[.agg #[.pointer (some ⟨b, 0, none⟩)], .agg #[.int .i64 6, .int .i64 n, .string nm, .string f, .slice A 0 c]] w (PrP B b m (putsS m st ([[bs nm, [46], bs f]])) w) := by
  have HNE := Lib.hid h.lt
  have HK0 := Lib.hid (show Keep (fun _ => False) w ((w.alloc (.cells #[.pointer (some ⟨b, 0, none⟩)] 72)).alloc (.cells #[.int .i64 6, .int .i64 n, .string nm, .string f, .slice A 0 c] 25)) from ((Keep.refl _ w).alloc _).alloc _)
  have HB0 := Lib.hid (show Blk ((w.alloc (.cells #[.pointer (some ⟨b, 0, none⟩)] 72)).alloc (.cells #[.int .i64 6, .int .i64 n, .string nm, .string f, .slice A 0 c] 25)) w.heap.size #[.pointer (some ⟨b, 0, none⟩)] 72 from (Blk.new w _ _).alloc _)
  have HB1 := Lib.hid (show Blk ((w.alloc (.cells #[.pointer (some ⟨b, 0, none⟩)] 72)).alloc (.cells #[.int .i64 6, .int .i64 n, .string nm, .string f, .slice A 0 c] 25)) (w.heap.size + 1) #[.int .i64 6, .int .i64 n, .string nm, .string f, .slice A 0 c] 25 from Blk.new' (by simp) _ _)
  have HS0 := Lib.hid (h.keepF HK0.out)
  have HQ0 := Lib.hid (SK.refl B b ((w.alloc (.cells #[.pointer (some ⟨b, 0, none⟩)] 72)).alloc (.cells #[.int .i64 6, .int .i64 n, .string nm, .string f, .slice A 0 c] 25)))
  clear h
  go_enter Tryz.func29, Tryz.ntmps29
  go_wp2_with fail
  refine (put_arr B b (w.heap.size + 2) 3 [nm, ⟨#[46]⟩, f] _ m _ (HS0.out.keepF ((Keep.refl _ _).alloc _)) (Blk.new' (by simp) _ _) (by simp)).mono ?_
  rintro e w1 ⟨rfl, hs, hk⟩
  have HS1 := Lib.hid hs
  have HQ1 := Lib.hid (HQ0.out.trans ((SK.ofF ((Keep.refl _ _).alloc _)).trans hk))
  clear hs hk
  have p0 := (HQ1.out.2 _ _ _ (by have := HNE.out; omega) (by decide) HB0.out).at_ 0 (v := .pointer (some ⟨b, 0, none⟩)) rfl
  have pl0 := (HQ1.out.2 _ _ _ (by have := HNE.out; omega) (by decide) HB0.out).lt
  have p1 := (HQ1.out.2 _ _ _ (by have := HNE.out; omega) (by decide) HB1.out).all5
  have pl1 := (HQ1.out.2 _ _ _ (by have := HNE.out; omega) (by decide) HB1.out).lt
  go_wp2_with fail
  go_end0
  refine ⟨rfl, ?_, (SK.ofF HK0.out).trans HQ1.out⟩
  have hfin := HS1.out
  exact hfin
end Go.Proofs.YtgmmjhelcpgakaaGreatDoor
