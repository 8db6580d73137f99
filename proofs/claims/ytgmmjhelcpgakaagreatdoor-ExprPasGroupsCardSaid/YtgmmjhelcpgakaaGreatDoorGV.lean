/- Package exprpas: printer.expr, two operands of level 2. -/
import Derived.Test.YtgmmjhelcpgakaaGreatDoorGR
namespace Go.Proofs.YtgmmjhelcpgakaaGreatDoor
open Go.RowKit
set_option linter.unusedVariables false
set_option linter.unusedSimpArgs false

set_option maxRecDepth 100000 in
set_option maxHeartbeats 4000000 in
theorem peR2 (B b m : Nat) (o : Int) (n : Int) (nm f : ByteArray) (A : Option Addr) (c : Nat) (st : Bs × Bool) (w : World) (h : Snk B w b st.1 m st.2) (ea : Ex) (ba oa : Nat) (Aa : Option Addr) (ca : Nat) (HC : Hid (Child B w ba oa ea Aa ca)) (HE : Hid (ChildE B b m w ea Aa ca)) (eb : Ex) (Ab : Option Addr) (cb : Nat) (HC2 : Hid (Child B w ba (oa + 5) eb Ab cb)) (HE2 : Hid (ChildE B b m w eb Ab cb)) (hA : A = some ⟨ba, oa, none⟩) (hlv : lvlP o = 2) (ho : 10 ≤ o) :
    Calls Tryz.prog 29 #[.agg #[.pointer (some ⟨b, 0, none⟩)], .agg #[.int .i64 o, .int .i64 n, .string nm, .string f, .slice A 2 c]] w (PrP B b m (putsS m st (atP (leftP o) ea.op (pcs ea) ++ [[bs (sgnP o)]] ++ atP (lvlP o + 1) eb.op (pcs eb))) w) := by
  subst hA
  have HLV := Lib.hid (fun W => levelPas_any o W)
  rw [hlv] at HLV
  have HLVL := Lib.hid (show atP (leftP o) ea.op (pcs ea) ++ [[bs (sgnP o)]] ++ atP (lvlP o + 1) eb.op (pcs eb) = atP 2 ea.op (pcs ea) ++ [[bs (sgnP o)]] ++ atP 3 eb.op (pcs eb) by unfold leftP; rw [hlv]; rfl)
  obtain ⟨sg, hsg⟩ : ∃ sg, sg = sgnP o := ⟨_, rfl⟩
  have HSG := Lib.hid (fun W => sign_any o W)
  rw [← hsg] at HSG
  have HSE := Lib.hid (show ([sg] : List ByteArray).map bs = [bs (sgnP o)] by rw [hsg]; rfl)
  clear hsg
  have n1 : (o == 1) = false := by rw [beq_eq_false_iff_ne]; omega
  have n2 : (o == 2) = false := by rw [beq_eq_false_iff_ne]; omega
  have n3 : (o == 3) = false := by rw [beq_eq_false_iff_ne]; omega
  have n4 : (o == 4) = false := by rw [beq_eq_false_iff_ne]; omega
  have n5 : (o == 5) = false := by rw [beq_eq_false_iff_ne]; omega
  have n6 : (o == 6) = false := by rw [beq_eq_false_iff_ne]; omega
  have n7 : (o == 7) = false := by rw [beq_eq_false_iff_ne]; omega
  have n8 : (o == 8) = false := by rw [beq_eq_false_iff_ne]; omega
  have n9 : (o == 9) = false := by rw [beq_eq_false_iff_ne]; omega
  clear hlv ho
  have HNE := Lib.hid h.lt
  have HK0 := Lib.hid (show Keep (fun _ => False) w ((w.alloc (.cells #[.pointer (some ⟨b, 0, none⟩)] 72)).alloc (.cells #[.int .i64 o, .int .i64 n, .string nm, .string f, .slice (some ⟨ba, oa, none⟩) 2 c] 25)) from ((Keep.refl _ w).alloc _).alloc _)
  have HB0 := Lib.hid (show Blk ((w.alloc (.cells #[.pointer (some ⟨b, 0, none⟩)] 72)).alloc (.cells #[.int .i64 o, .int .i64 n, .string nm, .string f, .slice (some ⟨ba, oa, none⟩) 2 c] 25)) w.heap.size #[.pointer (some ⟨b, 0, none⟩)] 72 from (Blk.new w _ _).alloc _)
  have HB1 := Lib.hid (show Blk ((w.alloc (.cells #[.pointer (some ⟨b, 0, none⟩)] 72)).alloc (.cells #[.int .i64 o, .int .i64 n, .string nm, .string f, .slice (some ⟨ba, oa, none⟩) 2 c] 25)) (w.heap.size + 1) #[.int .i64 o, .int .i64 n, .string nm, .string f, .slice (some ⟨ba, oa, none⟩) 2 c] 25 from Blk.new' (by simp) _ _)
  have HS0 := Lib.hid (h.keepF HK0.out)
  have HQ0 := Lib.hid (SK.refl B b ((w.alloc (.cells #[.pointer (some ⟨b, 0, none⟩)] 72)).alloc (.cells #[.int .i64 o, .int .i64 n, .string nm, .string f, .slice (some ⟨ba, oa, none⟩) 2 c] 25)))
  clear h
  go_enter Tryz.func29, Tryz.ntmps29
  go_wp2_with fail
  go_cut [6, 7] from 10 to 16 (fun v6 v7 wx => v6 = .int .i64 2 ∧ v7 = .int .i64 3 ∧ Keep (fun _ => False) ((w.alloc (.cells #[.pointer (some ⟨b, 0, none⟩)] 72)).alloc (.cells #[.int .i64 o, .int .i64 n, .string nm, .string f, .slice (some ⟨ba, oa, none⟩) 2 c] 25)) wx)
  case first =>
    go_region_with (go_at_call 59; refine (HLV.out _).mono ?_; rintro e w' ⟨rfl, rfl⟩)
    all_goals
      go_wp2_with fail
      go_meet
      exact ⟨rfl, rfl, by first | exact (Keep.refl _ _).drew | exact Keep.refl _ _⟩
  case rest =>
    obtain ⟨rfl, rfl, hkx⟩ := hcut
    have HS1 := Lib.hid (HS0.out.keepF hkx)
    have HQ1 := Lib.hid (SK.ofF (B := B) (b := b) hkx)
    clear hkx
    have p0 := (HQ1.out.2 _ _ _ (by have := HNE.out; omega) (by decide) HB0.out).at_ 0 (v := .pointer (some ⟨b, 0, none⟩)) rfl
    have pl0 := (HQ1.out.2 _ _ _ (by have := HNE.out; omega) (by decide) HB0.out).lt
    have p1 := (HQ1.out.2 _ _ _ (by have := HNE.out; omega) (by decide) HB1.out).all5
    have pl1 := (HQ1.out.2 _ _ _ (by have := HNE.out; omega) (by decide) HB1.out).lt
    obtain ⟨k0, k1, k2, k3, k4, kl⟩ := HC.out.get (((SK.ofF HK0.out).trans HQ1.out).1)
    go_wp2_with fail
    go_cut [] from 19 to 25 (fun wx => Hid (Snk B wx b (putsS m st (atP 2 ea.op (pcs ea))).1 m (putsS m st (atP 2 ea.op (pcs ea))).2) ∧ Hid (SK B b ((w.alloc (.cells #[.pointer (some ⟨b, 0, none⟩)] 72)).alloc (.cells #[.int .i64 o, .int .i64 n, .string nm, .string f, .slice (some ⟨ba, oa, none⟩) 2 c] 25)) wx))
    case first =>
      go_region_with (go_at_call 58; refine (HE.out.at_ _ _ 2 2 rfl (by first | exact (SK.ofF HK0.out).trans HQ1.out | exact ((SK.ofF HK0.out).trans HQ1.out).trans (SK.ofF (Keep.refl _ _).drew)) (by first | exact HS1.out | exact HS1.out.keepF (Keep.refl _ _).drew)).mono ?_; rintro e w2 ⟨rfl, hs, hk⟩; have HS2 := Lib.hid hs; have HQ2 := Lib.hid (show SK B b _ w2 by first | exact HQ1.out.trans ((SK.ofF (Keep.refl _ _).drew).trans hk) | exact HQ1.out.trans hk); clear hs hk)
      all_goals
        go_wp2_with fail
        go_meet
        exact ⟨HS2, HQ2⟩
    case rest =>
      obtain ⟨HS2, HQ2⟩ := hcut
      clear k0 k1 k2 k3 k4 kl
      clear p0 pl0 p1 pl1
      have p0 := (HQ2.out.2 _ _ _ (by have := HNE.out; omega) (by decide) HB0.out).at_ 0 (v := .pointer (some ⟨b, 0, none⟩)) rfl
      have pl0 := (HQ2.out.2 _ _ _ (by have := HNE.out; omega) (by decide) HB0.out).lt
      have p1 := (HQ2.out.2 _ _ _ (by have := HNE.out; omega) (by decide) HB1.out).all5
      have pl1 := (HQ2.out.2 _ _ _ (by have := HNE.out; omega) (by decide) HB1.out).lt
      go_wp2_with fail
      go_cut [] from 26 to 32 (fun wx => Hid (Snk B wx b (putS m (putsS m st (atP 2 ea.op (pcs ea))) [bs (sgnP o)]).1 m (putS m (putsS m st (atP 2 ea.op (pcs ea))) [bs (sgnP o)]).2) ∧ Hid (SK B b ((w.alloc (.cells #[.pointer (some ⟨b, 0, none⟩)] 72)).alloc (.cells #[.int .i64 o, .int .i64 n, .string nm, .string f, .slice (some ⟨ba, oa, none⟩) 2 c] 25)) wx))
      case first =>
        go_region_with (first | (go_at_call 60; refine (HSG.out _).mono ?_; rintro e w' ⟨rfl, rfl⟩) | (go_at_call 55; refine (put_arr B b wc.heap.size 1 [sg] _ m _ (HS2.out.keepF (by first | exact (Keep.refl _ _).drew.alloc _ | exact ((Keep.refl _ _).alloc _).drew | exact (Keep.refl _ _).alloc _)) (Blk.new' (by simp) _ _) (by simp)).mono ?_; rintro e w3 ⟨rfl, hs, hk⟩; have HS3 := Lib.hid hs; have HQ3 := Lib.hid (show SK B b _ w3 from HQ2.out.trans ((SK.ofF (by first | exact (Keep.refl _ _).drew.alloc _ | exact ((Keep.refl _ _).alloc _).drew | exact (Keep.refl _ _).alloc _)).trans hk)); clear hs hk))
        all_goals
          go_wp2_with fail
          go_meet
          have hfin := HS3.out
          rw [HSE.out] at hfin
          exact ⟨Lib.hid hfin, HQ3⟩
      case rest =>
        obtain ⟨HS3, HQ3⟩ := hcut
        clear p0 pl0 p1 pl1
        have p0 := (HQ3.out.2 _ _ _ (by have := HNE.out; omega) (by decide) HB0.out).at_ 0 (v := .pointer (some ⟨b, 0, none⟩)) rfl
        have pl0 := (HQ3.out.2 _ _ _ (by have := HNE.out; omega) (by decide) HB0.out).lt
        have p1 := (HQ3.out.2 _ _ _ (by have := HNE.out; omega) (by decide) HB1.out).all5
        have pl1 := (HQ3.out.2 _ _ _ (by have := HNE.out; omega) (by decide) HB1.out).lt
        obtain ⟨k0, k1, k2, k3, k4, kl⟩ := HC2.out.get (((SK.ofF HK0.out).trans HQ3.out).1)
        go_wp2_with fail
        go_region_with (go_at_call 58; refine (HE2.out.at_ _ _ 3 3 rfl (by first | exact (SK.ofF HK0.out).trans HQ3.out | exact ((SK.ofF HK0.out).trans HQ3.out).trans (SK.ofF (Keep.refl _ _).drew)) (by first | exact HS3.out | exact HS3.out.keepF (Keep.refl _ _).drew)).mono ?_; rintro e w4 ⟨rfl, hs, hk⟩; have HS4 := Lib.hid hs; have HQ4 := Lib.hid (show SK B b _ w4 by first | exact HQ3.out.trans ((SK.ofF (Keep.refl _ _).drew).trans hk) | exact HQ3.out.trans hk); clear hs hk)
        all_goals
          go_wp2_with fail
          go_end0
          refine ⟨rfl, ?_, (SK.ofF HK0.out).trans HQ4.out⟩
          rw [HLVL.out, putsS_append, putsS_append]
          exact HS4.out
end Go.Proofs.YtgmmjhelcpgakaaGreatDoor
