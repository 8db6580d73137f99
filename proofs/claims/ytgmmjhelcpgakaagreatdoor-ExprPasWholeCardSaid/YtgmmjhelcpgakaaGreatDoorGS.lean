/- Package exprpas: printer.expr, an index, signs of one operand. -/
import Derived.Test.YtgmmjhelcpgakaaGreatDoorGR
namespace Go.Proofs.YtgmmjhelcpgakaaGreatDoor
open Go.RowKit
set_option linter.unusedVariables false
set_option linter.unusedSimpArgs false

set_option maxRecDepth 100000 in
set_option maxHeartbeats 4000000 in
theorem pe5 (B b m : Nat) (n : Int) (nm f : ByteArray) (A : Option Addr) (c : Nat) (st : Bs × Bool) (w : World) (h : Snk B w b st.1 m st.2) (ea : Ex) (ba oa : Nat) (Aa : Option Addr) (ca : Nat) (HC : Hid (Child B w ba oa ea Aa ca)) (HE : Hid (ChildE B b m w ea Aa ca)) (hA : A = some ⟨ba, oa, none⟩) :
    Calls Tryz.prog 29 #[.agg #[.pointer (some ⟨b, 0, none⟩)], .agg #[.int .i64 5, .int .i64 n, .string nm, .string f, .slice A 1 c]] w (PrP B b m (putsS m st ([[bs nm, [91]]] ++ pcs ea ++ [[[93]]])) w) := by
  subst hA
  have HNE := Lib.hid h.lt
  have HK0 := Lib.hid (show Keep (fun _ => False) w ((w.alloc (.cells #[.pointer (some ⟨b, 0, none⟩)] 72)).alloc (.cells #[.int .i64 5, .int .i64 n, .string nm, .string f, .slice (some ⟨ba, oa, none⟩) 1 c] 25)) from ((Keep.refl _ w).alloc _).alloc _)
  have HB0 := Lib.hid (show Blk ((w.alloc (.cells #[.pointer (some ⟨b, 0, none⟩)] 72)).alloc (.cells #[.int .i64 5, .int .i64 n, .string nm, .string f, .slice (some ⟨ba, oa, none⟩) 1 c] 25)) w.heap.size #[.pointer (some ⟨b, 0, none⟩)] 72 from (Blk.new w _ _).alloc _)
  have HB1 := Lib.hid (show Blk ((w.alloc (.cells #[.pointer (some ⟨b, 0, none⟩)] 72)).alloc (.cells #[.int .i64 5, .int .i64 n, .string nm, .string f, .slice (some ⟨ba, oa, none⟩) 1 c] 25)) (w.heap.size + 1) #[.int .i64 5, .int .i64 n, .string nm, .string f, .slice (some ⟨ba, oa, none⟩) 1 c] 25 from Blk.new' (by simp) _ _)
  have HS0 := Lib.hid (h.keepF HK0.out)
  have HQ0 := Lib.hid (SK.refl B b ((w.alloc (.cells #[.pointer (some ⟨b, 0, none⟩)] 72)).alloc (.cells #[.int .i64 5, .int .i64 n, .string nm, .string f, .slice (some ⟨ba, oa, none⟩) 1 c] 25)))
  clear h
  go_enter Tryz.func29, Tryz.ntmps29
  go_wp2_with fail
  refine (put_arr B b (w.heap.size + 2) 2 [nm, ⟨#[91]⟩] _ m _ (HS0.out.keepF ((Keep.refl _ _).alloc _)) (Blk.new' (by simp) _ _) (by simp)).mono ?_
  rintro e w1 ⟨rfl, hs, hk⟩
  have HS1 := Lib.hid hs
  have HQ1 := Lib.hid (HQ0.out.trans ((SK.ofF ((Keep.refl _ _).alloc _)).trans hk))
  clear hs hk
  have p0 := (HQ1.out.2 _ _ _ (by have := HNE.out; omega) (by decide) HB0.out).at_ 0 (v := .pointer (some ⟨b, 0, none⟩)) rfl
  have pl0 := (HQ1.out.2 _ _ _ (by have := HNE.out; omega) (by decide) HB0.out).lt
  have p1 := (HQ1.out.2 _ _ _ (by have := HNE.out; omega) (by decide) HB1.out).all5
  have pl1 := (HQ1.out.2 _ _ _ (by have := HNE.out; omega) (by decide) HB1.out).lt
  obtain ⟨k0, k1, k2, k3, k4, kl⟩ := HC.out.get (((SK.ofF HK0.out).trans HQ1.out).1)
  go_wp2_with fail
  go_region_with (go_at_call 29; refine (HE.out _ _ (by first | exact (SK.ofF HK0.out).trans HQ1.out | exact ((SK.ofF HK0.out).trans HQ1.out).trans (SK.ofF (Keep.refl _ _).drew)) (by first | exact HS1.out | exact HS1.out.keepF (Keep.refl _ _).drew)).mono ?_; rintro e w2 ⟨rfl, hs, hk⟩; have HS2 := Lib.hid hs; have HQ2 := Lib.hid (show SK B b _ w2 by first | exact HQ1.out.trans ((SK.ofF (Keep.refl _ _).drew).trans hk) | exact HQ1.out.trans hk); clear hs hk)
  all_goals
    clear k0 k1 k2 k3 k4 kl
    clear p0 pl0 p1 pl1
    have p0 := (HQ2.out.2 _ _ _ (by have := HNE.out; omega) (by decide) HB0.out).at_ 0 (v := .pointer (some ⟨b, 0, none⟩)) rfl
    have pl0 := (HQ2.out.2 _ _ _ (by have := HNE.out; omega) (by decide) HB0.out).lt
    have p1 := (HQ2.out.2 _ _ _ (by have := HNE.out; omega) (by decide) HB1.out).all5
    have pl1 := (HQ2.out.2 _ _ _ (by have := HNE.out; omega) (by decide) HB1.out).lt
    go_wp2_with fail
    refine (put_arr B b w2.heap.size 1 [⟨#[93]⟩] _ m _ (HS2.out.keepF ((Keep.refl _ _).alloc _)) (Blk.new' (by simp) _ _) (by simp)).mono ?_
    rintro e w3 ⟨rfl, hs, hk⟩
    have HS3 := Lib.hid hs
    have HQ3 := Lib.hid (HQ2.out.trans ((SK.ofF ((Keep.refl _ _).alloc _)).trans hk))
    clear hs hk
    go_wp2_with fail
    go_end0
    refine ⟨rfl, ?_, (SK.ofF HK0.out).trans HQ3.out⟩
    have hfin := HS3.out
    rw [putsS_cons, putsS_append]
    exact hfin
set_option maxRecDepth 100000 in
set_option maxHeartbeats 4000000 in
theorem pe8 (B b m : Nat) (n : Int) (nm f : ByteArray) (A : Option Addr) (c : Nat) (st : Bs × Bool) (w : World) (h : Snk B w b st.1 m st.2) (ea : Ex) (ba oa : Nat) (Aa : Option Addr) (ca : Nat) (HC : Hid (Child B w ba oa ea Aa ca)) (HE : Hid (ChildE B b m w ea Aa ca)) (hA : A = some ⟨ba, oa, none⟩) :
    Calls Tryz.prog 29 #[.agg #[.pointer (some ⟨b, 0, none⟩)], .agg #[.int .i64 8, .int .i64 n, .string nm, .string f, .slice A 1 c]] w (PrP B b m (putsS m st ([[[45]]] ++ atP 3 ea.op (pcs ea))) w) := by
  subst hA
  have HNE := Lib.hid h.lt
  have HK0 := Lib.hid (show Keep (fun _ => False) w ((w.alloc (.cells #[.pointer (some ⟨b, 0, none⟩)] 72)).alloc (.cells #[.int .i64 8, .int .i64 n, .string nm, .string f, .slice (some ⟨ba, oa, none⟩) 1 c] 25)) from ((Keep.refl _ w).alloc _).alloc _)
  have HB0 := Lib.hid (show Blk ((w.alloc (.cells #[.pointer (some ⟨b, 0, none⟩)] 72)).alloc (.cells #[.int .i64 8, .int .i64 n, .string nm, .string f, .slice (some ⟨ba, oa, none⟩) 1 c] 25)) w.heap.size #[.pointer (some ⟨b, 0, none⟩)] 72 from (Blk.new w _ _).alloc _)
  have HB1 := Lib.hid (show Blk ((w.alloc (.cells #[.pointer (some ⟨b, 0, none⟩)] 72)).alloc (.cells #[.int .i64 8, .int .i64 n, .string nm, .string f, .slice (some ⟨ba, oa, none⟩) 1 c] 25)) (w.heap.size + 1) #[.int .i64 8, .int .i64 n, .string nm, .string f, .slice (some ⟨ba, oa, none⟩) 1 c] 25 from Blk.new' (by simp) _ _)
  have HS0 := Lib.hid (h.keepF HK0.out)
  have HQ0 := Lib.hid (SK.refl B b ((w.alloc (.cells #[.pointer (some ⟨b, 0, none⟩)] 72)).alloc (.cells #[.int .i64 8, .int .i64 n, .string nm, .string f, .slice (some ⟨ba, oa, none⟩) 1 c] 25)))
  clear h
  go_enter Tryz.func29, Tryz.ntmps29
  go_wp2_with fail
  refine (put_arr B b (w.heap.size + 2) 1 [⟨#[45]⟩] _ m _ (HS0.out.keepF ((Keep.refl _ _).alloc _)) (Blk.new' (by simp) _ _) (by simp)).mono ?_
  rintro e w1 ⟨rfl, hs, hk⟩
  have HS1 := Lib.hid hs
  have HQ1 := Lib.hid (HQ0.out.trans ((SK.ofF ((Keep.refl _ _).alloc _)).trans hk))
  clear hs hk
  have p0 := (HQ1.out.2 _ _ _ (by have := HNE.out; omega) (by decide) HB0.out).at_ 0 (v := .pointer (some ⟨b, 0, none⟩)) rfl
  have pl0 := (HQ1.out.2 _ _ _ (by have := HNE.out; omega) (by decide) HB0.out).lt
  have p1 := (HQ1.out.2 _ _ _ (by have := HNE.out; omega) (by decide) HB1.out).all5
  have pl1 := (HQ1.out.2 _ _ _ (by have := HNE.out; omega) (by decide) HB1.out).lt
  obtain ⟨k0, k1, k2, k3, k4, kl⟩ := HC.out.get (((SK.ofF HK0.out).trans HQ1.out).1)
  go_wp2_with fail
  go_region_with (go_at_call 58; refine (HE.out.at_ _ _ 3 3 rfl (by first | exact (SK.ofF HK0.out).trans HQ1.out | exact ((SK.ofF HK0.out).trans HQ1.out).trans (SK.ofF (Keep.refl _ _).drew)) (by first | exact HS1.out | exact HS1.out.keepF (Keep.refl _ _).drew)).mono ?_; rintro e w2 ⟨rfl, hs, hk⟩; have HS2 := Lib.hid hs; have HQ2 := Lib.hid (show SK B b _ w2 by first | exact HQ1.out.trans ((SK.ofF (Keep.refl _ _).drew).trans hk) | exact HQ1.out.trans hk); clear hs hk)
  all_goals
    go_wp2_with fail
    go_end0
    refine ⟨rfl, ?_, (SK.ofF HK0.out).trans HQ2.out⟩
    have hfin := HS2.out
    show Snk _ _ _ (putsS m st (_ :: _)).1 _ _
    rw [putsS_cons]
    exact hfin
set_option maxRecDepth 100000 in
set_option maxHeartbeats 4000000 in
theorem pe9 (B b m : Nat) (n : Int) (nm f : ByteArray) (A : Option Addr) (c : Nat) (st : Bs × Bool) (w : World) (h : Snk B w b st.1 m st.2) (ea : Ex) (ba oa : Nat) (Aa : Option Addr) (ca : Nat) (HC : Hid (Child B w ba oa ea Aa ca)) (HE : Hid (ChildE B b m w ea Aa ca)) (hA : A = some ⟨ba, oa, none⟩) :
    Calls Tryz.prog 29 #[.agg #[.pointer (some ⟨b, 0, none⟩)], .agg #[.int .i64 9, .int .i64 n, .string nm, .string f, .slice A 1 c]] w (PrP B b m (putsS m st ([[[110, 111, 116, 32]]] ++ atP 4 ea.op (pcs ea))) w) := by
  subst hA
  have HNE := Lib.hid h.lt
  have HK0 := Lib.hid (show Keep (fun _ => False) w ((w.alloc (.cells #[.pointer (some ⟨b, 0, none⟩)] 72)).alloc (.cells #[.int .i64 9, .int .i64 n, .string nm, .string f, .slice (some ⟨ba, oa, none⟩) 1 c] 25)) from ((Keep.refl _ w).alloc _).alloc _)
  have HB0 := Lib.hid (show Blk ((w.alloc (.cells #[.pointer (some ⟨b, 0, none⟩)] 72)).alloc (.cells #[.int .i64 9, .int .i64 n, .string nm, .string f, .slice (some ⟨ba, oa, none⟩) 1 c] 25)) w.heap.size #[.pointer (some ⟨b, 0, none⟩)] 72 from (Blk.new w _ _).alloc _)
  have HB1 := Lib.hid (show Blk ((w.alloc (.cells #[.pointer (some ⟨b, 0, none⟩)] 72)).alloc (.cells #[.int .i64 9, .int .i64 n, .string nm, .string f, .slice (some ⟨ba, oa, none⟩) 1 c] 25)) (w.heap.size + 1) #[.int .i64 9, .int .i64 n, .string nm, .string f, .slice (some ⟨ba, oa, none⟩) 1 c] 25 from Blk.new' (by simp) _ _)
  have HS0 := Lib.hid (h.keepF HK0.out)
  have HQ0 := Lib.hid (SK.refl B b ((w.alloc (.cells #[.pointer (some ⟨b, 0, none⟩)] 72)).alloc (.cells #[.int .i64 9, .int .i64 n, .string nm, .string f, .slice (some ⟨ba, oa, none⟩) 1 c] 25)))
  clear h
  go_enter Tryz.func29, Tryz.ntmps29
  go_wp2_with fail
  refine (put_arr B b (w.heap.size + 2) 1 [⟨#[110, 111, 116, 32]⟩] _ m _ (HS0.out.keepF ((Keep.refl _ _).alloc _)) (Blk.new' (by simp) _ _) (by simp)).mono ?_
  rintro e w1 ⟨rfl, hs, hk⟩
  have HS1 := Lib.hid hs
  have HQ1 := Lib.hid (HQ0.out.trans ((SK.ofF ((Keep.refl _ _).alloc _)).trans hk))
  clear hs hk
  have p0 := (HQ1.out.2 _ _ _ (by have := HNE.out; omega) (by decide) HB0.out).at_ 0 (v := .pointer (some ⟨b, 0, none⟩)) rfl
  have pl0 := (HQ1.out.2 _ _ _ (by have := HNE.out; omega) (by decide) HB0.out).lt
  have p1 := (HQ1.out.2 _ _ _ (by have := HNE.out; omega) (by decide) HB1.out).all5
  have pl1 := (HQ1.out.2 _ _ _ (by have := HNE.out; omega) (by decide) HB1.out).lt
  obtain ⟨k0, k1, k2, k3, k4, kl⟩ := HC.out.get (((SK.ofF HK0.out).trans HQ1.out).1)
  go_wp2_with fail
  go_region_with (go_at_call 58; refine (HE.out.at_ _ _ 4 4 rfl (by first | exact (SK.ofF HK0.out).trans HQ1.out | exact ((SK.ofF HK0.out).trans HQ1.out).trans (SK.ofF (Keep.refl _ _).drew)) (by first | exact HS1.out | exact HS1.out.keepF (Keep.refl _ _).drew)).mono ?_; rintro e w2 ⟨rfl, hs, hk⟩; have HS2 := Lib.hid hs; have HQ2 := Lib.hid (show SK B b _ w2 by first | exact HQ1.out.trans ((SK.ofF (Keep.refl _ _).drew).trans hk) | exact HQ1.out.trans hk); clear hs hk)
  all_goals
    go_wp2_with fail
    go_end0
    refine ⟨rfl, ?_, (SK.ofF HK0.out).trans HQ2.out⟩
    have hfin := HS2.out
    show Snk _ _ _ (putsS m st (_ :: _)).1 _ _
    rw [putsS_cons]
    exact hfin
end Go.Proofs.YtgmmjhelcpgakaaGreatDoor
/- Package exprpas: printer.expr, calls. -/
namespace Go.Proofs.YtgmmjhelcpgakaaGreatDoor
open Go.RowKit
set_option linter.unusedVariables false
set_option linter.unusedSimpArgs false

theorem commaP_one (p : Pc) : commaP false [p] = p := by
  rw [commaP, commaP]; simp
theorem commaP_true : ∀ (ps : List Pc) (p : Pc), commaP true (ps ++ [p]) = commaP true ps ++ ([[44, 32]] :: p)
  | [], p => by rw [List.nil_append, commaP, commaP, commaP]; simp
  | q :: ps, p => by rw [List.cons_append, commaP, commaP, commaP_true ps p]; simp
theorem commaP_snoc (ps : List Pc) (p : Pc) (h : ps ≠ []) : commaP false (ps ++ [p]) = commaP false ps ++ ([[44, 32]] :: p) := by
  match ps, h with
  | q :: ps, _ => rw [List.cons_append, commaP, commaP, commaP_true]; simp
set_option maxRecDepth 100000 in
set_option maxHeartbeats 4000000 in
theorem pe7 (B b m : Nat) (ln : Nat) (n : Int) (nm f : ByteArray) (A : Option Addr) (c : Nat) (st : Bs × Bool) (w : World) (h : Snk B w b st.1 m st.2) (l : List Ex) (hln : ln = l.length) (hz : ln ≤ 2305843009213693951) (HCH : Hid (∀ (k : Nat) (y : Ex), l[k]? = some y → ∃ ba off A' c', A = some ⟨ba, off, none⟩ ∧ Child B w ba (off + k * 5) y A' c' ∧ ChildE B b m w y A' c')) :
    Calls Tryz.prog 29 #[.agg #[.pointer (some ⟨b, 0, none⟩)], .agg #[.int .i64 7, .int .i64 n, .string nm, .string f, .slice A ln c]] w (PrP B b m (putsS m st ([[bs nm, [40]]] ++ commaP false (l.map pcs) ++ [[[41]]])) w) := by
  have HL := Lib.hid hln
  clear hln
  have HNE := Lib.hid h.lt
  have HK0 := Lib.hid (show Keep (fun _ => False) w ((w.alloc (.cells #[.pointer (some ⟨b, 0, none⟩)] 72)).alloc (.cells #[.int .i64 7, .int .i64 n, .string nm, .string f, .slice A ln c] 25)) from ((Keep.refl _ w).alloc _).alloc _)
  have HB0 := Lib.hid (show Blk ((w.alloc (.cells #[.pointer (some ⟨b, 0, none⟩)] 72)).alloc (.cells #[.int .i64 7, .int .i64 n, .string nm, .string f, .slice A ln c] 25)) w.heap.size #[.pointer (some ⟨b, 0, none⟩)] 72 from (Blk.new w _ _).alloc _)
  have HB1 := Lib.hid (show Blk ((w.alloc (.cells #[.pointer (some ⟨b, 0, none⟩)] 72)).alloc (.cells #[.int .i64 7, .int .i64 n, .string nm, .string f, .slice A ln c] 25)) (w.heap.size + 1) #[.int .i64 7, .int .i64 n, .string nm, .string f, .slice A ln c] 25 from Blk.new' (by simp) _ _)
  have HS0 := Lib.hid (h.keepF HK0.out)
  have HQ0 := Lib.hid (SK.refl B b ((w.alloc (.cells #[.pointer (some ⟨b, 0, none⟩)] 72)).alloc (.cells #[.int .i64 7, .int .i64 n, .string nm, .string f, .slice A ln c] 25)))
  clear h
  go_enter Tryz.func29, Tryz.ntmps29
  go_wp2_with fail
  refine (put_arr B b (w.heap.size + 2) 2 [nm, ⟨#[40]⟩] _ m _ (HS0.out.keepF ((Keep.refl _ _).alloc _)) (Blk.new' (by simp) _ _) (by simp)).mono ?_
  rintro e w1 ⟨rfl, hs, hk⟩
  have HS1 := Lib.hid hs
  have HQ1 := Lib.hid (HQ0.out.trans ((SK.ofF ((Keep.refl _ _).alloc _)).trans hk))
  clear hs hk
  have p0 := (HQ1.out.2 _ _ _ (by have := HNE.out; omega) (by decide) HB0.out).at_ 0 (v := .pointer (some ⟨b, 0, none⟩)) rfl
  have pl0 := (HQ1.out.2 _ _ _ (by have := HNE.out; omega) (by decide) HB0.out).lt
  have p1 := (HQ1.out.2 _ _ _ (by have := HNE.out; omega) (by decide) HB1.out).all5
  have pl1 := (HQ1.out.2 _ _ _ (by have := HNE.out; omega) (by decide) HB1.out).lt
  obtain ⟨s1, hs1⟩ : ∃ s1, s1 = putS m st [bs nm, [40]] := ⟨_, rfl⟩
  have HS1' := Lib.hid (show Snk B w1 b s1.1 m s1.2 by rw [hs1]; exact HS1.out)
  have HS1E := Lib.hid hs1
  clear hs1 HS1
  go_wp2_with fail
  go_loopw [115] (fun i wr => ∃ k : Nat, k ≤ ln ∧ i = .int .i64 k ∧ Hid (Snk B wr b (putsS m s1 (commaP false ((l.take k).map pcs))).1 m (putsS m s1 (commaP false ((l.take k).map pcs))).2) ∧ Hid (SK B b ((w.alloc (.cells #[.pointer (some ⟨b, 0, none⟩)] 72)).alloc (.cells #[.int .i64 7, .int .i64 n, .string nm, .string f, .slice A ln c] 25)) wr)) (fun i _ => ln - (intOf i).toNat)
  case atStart => exact ⟨0, Nat.zero_le _, rfl, HS1', HQ1⟩
  case round =>
    obtain ⟨k, hk, rfl, HSk, HQk⟩ := hrel
    clear p0 pl0 p1 pl1
    have p0 := (HQk.out.2 _ _ _ (by have := HNE.out; omega) (by decide) HB0.out).at_ 0 (v := .pointer (some ⟨b, 0, none⟩)) rfl
    have pl0 := (HQk.out.2 _ _ _ (by have := HNE.out; omega) (by decide) HB0.out).lt
    have p1 := (HQk.out.2 _ _ _ (by have := HNE.out; omega) (by decide) HB1.out).all5
    have pl1 := (HQk.out.2 _ _ _ (by have := HNE.out; omega) (by decide) HB1.out).lt
    by_cases hlt : k < ln
    · obtain ⟨y, hy⟩ : ∃ y, l[k]? = some y := ⟨_, List.getElem?_eq_getElem (by rw [← HL.out]; exact hlt)⟩
      obtain ⟨ba, off, A', c', rfl, hch, hE⟩ := HCH.out k y hy
      obtain ⟨k0, k1, k2, k3, k4, kl⟩ := hch.get (((SK.ofF HK0.out).trans HQk.out).1)
      have hi0 : (0 : Int) ≤ (k : Int) := by omega
      have hi1 : (k : Int) < (ln : Int) := by omega
      have HY := Lib.hid hy; have HE := Lib.hid hE
      clear hch hy hE
      by_cases hk0 : k = 0
      · subst hk0
        simp only [Nat.zero_mul, Nat.add_zero] at k0 k1 k2 k3 k4
        go_wp2_with fail
        refine (HE.out _ _ ((SK.ofF HK0.out).trans (HQk.out.trans (SK.ofF ((Keep.refl _ _).alloc _)))) (HSk.out.keepF ((Keep.refl _ _).alloc _))).mono ?_
        rintro e w3 ⟨rfl, hs3, hk3⟩
        have HS3 := Lib.hid hs3
        have HQ3 := Lib.hid ((HQk.out.trans (SK.ofF ((Keep.refl _ _).alloc _))).trans hk3)
        clear hs3 hk3
        go_wp2_with fail
        refine ⟨⟨1, by omega, by go_num, Lib.hid ?_, HQ3⟩, by simp [intOf]; omega⟩
        have h3 := HS3.out
        rw [List.take_add_one, HY.out, List.take_zero]
        show Snk B w3 b (putsS m s1 (commaP false [pcs y])).1 m (putsS m s1 (commaP false [pcs y])).2
        rw [commaP_one]
        exact h3
      · have t0 : decide (0 < k) = true := decide_eq_true (by omega)
        have t1 : decide ((0 : Int) < (k : Int)) = true := decide_eq_true (by omega)
        have HKP := Lib.hid hk0
        clear hk0
        have hbw := HNE.out
        have HWL := Lib.hid (Nat.lt_of_lt_of_le HNE.out (Nat.le_trans HK0.out.size HQk.out.1.size))
        clear hbw
        go_wp2_with fail
        refine (put_arr B b (wr.heap.size + 1) 1 [⟨#[44, 32]⟩] _ m _ (HSk.out.keepF (((Keep.refl _ _).alloc _).alloc _)) (Blk.new' (by simp) _ _) (by simp)).mono ?_
        rintro e w2 ⟨rfl, hs2, hk2⟩
        have HS2 := Lib.hid hs2
        have hq2 := (SK.ofF (((Keep.refl _ wr).alloc (.cells #[.int .i64 y.op, .int .i64 y.num, .string y.name, .string y.field, .slice A' y.list.length c'] 25)).alloc _)).trans hk2
        have HQ2 := Lib.hid (HQk.out.trans hq2)
        have hbx := hk2.2 wr.heap.size _ _ (by have := HWL.out; omega) (by decide) ((Blk.new wr #[.int .i64 y.op, .int .i64 y.num, .string y.name, .string y.field, .slice A' y.list.length c'] 25).alloc _)
        have r1 := hbx.all5
        have rl := hbx.lt
        clear hs2 hk2 hq2 hbx p0 pl0 p1 pl1 k0 k1 k2 k3 k4 kl
        have p0 := (HQ2.out.2 _ _ _ (by have := HNE.out; omega) (by decide) HB0.out).at_ 0 (v := .pointer (some ⟨b, 0, none⟩)) rfl
        have pl0 := (HQ2.out.2 _ _ _ (by have := HNE.out; omega) (by decide) HB0.out).lt
        have p1 := (HQ2.out.2 _ _ _ (by have := HNE.out; omega) (by decide) HB1.out).all5
        have pl1 := (HQ2.out.2 _ _ _ (by have := HNE.out; omega) (by decide) HB1.out).lt
        go_wp2_with fail
        refine (HE.out _ _ ((SK.ofF HK0.out).trans HQ2.out) HS2.out).mono ?_
        rintro e w3 ⟨rfl, hs3, hk3⟩
        have HS3 := Lib.hid hs3
        have HQ3 := Lib.hid (HQ2.out.trans hk3)
        clear hs3 hk3
        go_wp2_with fail
        refine ⟨⟨k + 1, by omega, by go_num, Lib.hid ?_, HQ3⟩, by simp [intOf]; omega⟩
        have h3 := HS3.out
        rw [List.take_add_one, HY.out]
        show Snk B w3 b (putsS m s1 (commaP false ((l.take k ++ [y]).map pcs))).1 m (putsS m s1 (commaP false ((l.take k ++ [y]).map pcs))).2
        rw [List.map_append]
        show Snk B w3 b (putsS m s1 (commaP false ((l.take k).map pcs ++ [pcs y]))).1 m (putsS m s1 (commaP false ((l.take k).map pcs ++ [pcs y]))).2
        rw [commaP_snoc _ _ (by intro h; have h2 := congrArg List.length h; rw [List.length_map, List.length_take, List.length_nil] at h2; have := HKP.out; have := HL.out; omega), putsS_append, putsS_cons]
        exact h3
    · obtain rfl : k = ln := by omega
      have hall := HSk.out
      rw [HL.out, List.take_length] at hall
      have HALL := Lib.hid hall
      clear hall
      go_wp2_with fail
      refine (put_arr B b wr.heap.size 1 [⟨#[41]⟩] _ m _ (HALL.out.keepF ((Keep.refl _ _).alloc _)) (Blk.new' (by simp) _ _) (by simp)).mono ?_
      rintro e w2 ⟨rfl, hs2, hk2⟩
      have HS2 := Lib.hid hs2
      have HQ2 := Lib.hid (HQk.out.trans ((SK.ofF ((Keep.refl _ _).alloc _)).trans hk2))
      clear hs2 hk2
      go_wp2_with fail
      go_end0
      refine ⟨rfl, ?_, (SK.ofF HK0.out).trans HQ2.out⟩
      show Snk _ _ _ (putsS m st ([bs nm, [40]] :: (commaP false (l.map pcs) ++ [[[41]]]))).1 _ (putsS m st ([bs nm, [40]] :: (commaP false (l.map pcs) ++ [[[41]]]))).2
      rw [putsS_cons, putsS_append, ← HS1E.out]
      exact HS2.out
end Go.Proofs.YtgmmjhelcpgakaaGreatDoor
