/- Package lexpas: All answers lexAll. -/
import Derived.Test.YtgmmjhelcpgakaaGreatDoorGA
import Derived.Test.YtgmmjhelcpgakaaGreatDoorGH
import Derived.Test.YtgmmjhelcpgakaaGreatDoorGJ
namespace Go.Proofs.YtgmmjhelcpgakaaGreatDoor
open Go.RowKit
set_option linter.unusedVariables false
set_option linter.unusedSimpArgs false

theorem inBlank : inSet ⟨#[32, 9, 13, 10]⟩ = blankB := by
  funext c
  unfold inSet blankB
  rw [show bs ⟨#[32, 9, 13, 10]⟩ = ([32, 9, 13, 10] : Bs) from rfl, Bool.eq_iff_iff]
  simp [List.contains_cons, or_assoc]
theorem Glob.mono {b b' : Nat} {w : World} (h : Glob b w) (hb : b ≤ b') : Glob b' w :=
  ⟨h.space, h.pow, h.syn, h.rng, Nat.lt_of_lt_of_le h.b1 hb, Nat.lt_of_lt_of_le h.b2 hb, Nat.lt_of_lt_of_le h.b3 hb, Nat.lt_of_lt_of_le h.b4 hb⟩
theorem ownsRow_lower {w : World} {b b' : Nat} {e : TypeId} {size n : Nat} {v : Value} {xs : List Value} (h : w.ownsRow b e size v n xs) (hb : b' ≤ b) : w.ownsRow b' e size v n xs := by
  obtain ⟨h1, h2⟩ := h
  refine ⟨h1, ?_⟩
  rcases h2 with h2 | ⟨g, cap, cur, hv, hg, r⟩
  · exact .inl h2
  · exact .inr ⟨g, cap, cur, hv, Nat.le_trans hb hg, r⟩
def curPos (w : World) (b : Nat) : Nat := match w.cell? ⟨b, 1, none⟩ with | some (.int _ n) => n.toNat | _ => 0
theorem curPos_of {w : World} {b : Nat} {s : ByteArray} {p : Nat} (h : CurB w b s p) : curPos w b = p := by
  unfold curPos; rw [h.c1]; rfl
def diagV (code : Nat) (p : Pos3) : Value := .agg #[.int .i64 code, .int .i64 p.1, .int .i64 p.2.1, .int .i64 p.2.2]
def AllPost (w : World) (R : LexR) (e : Ending) (w' : World) : Prop :=
  ∃ v, e = .returned (.tuple #[v, diagV R.code R.pos]) ∧ OwnToks w' w.heap.size v R.toks ∧ Below w.heap.size w w'

set_option maxRecDepth 100000 in
set_option maxHeartbeats 4000000 in
theorem all_any (s : ByteArray) (w : World) (hs : s.size ≤ 140737488351232) (hg : Glob w.heap.size w) :
    Calls Tryz.prog 19 #[.string s] w (AllPost w (lexAll s)) := by
  obtain ⟨R, hR⟩ : ∃ R, R = lexAll s := ⟨_, rfl⟩
  rw [← hR]
  have hu28 := Tryz.underlying30
  have hu26 := Tryz.underlying28
  have hu38 := Tryz.underlying50
  have hu49 := Tryz.underlying91
  have hu46 := Tryz.underlying88
  by_cases hbig : 65536 < s.size
  · have ht : decide ((65536 : Int) < (s.size : Int)) = true := by simp; omega
    have HR : Hid (R = ⟨[], 3, (0, 0, 0)⟩) := by show R = _; rw [hR]; unfold lexAll; rw [if_pos hbig]
    clear hR hbig
    go_enter Tryz.func19, Tryz.ntmps19
    go_wp2_with fail
    refine bodyPost_ret (v := .tuple #[.slice none 0 0, .agg #[.int .i64 3, .int .i64 0, .int .i64 0, .int .i64 0]]) (by simp [results, Tryz.results19, go_sem]) rfl ?_
    unfold AllPost
    rw [HR.out]
    exact ⟨_, rfl, World.ownsRow_nil _ _ _ _, ((Keep.refl (fun _ => False) w).alloc _).belowB (Nat.le_refl _)⟩
  · have ht : decide ((65536 : Int) < (s.size : Int)) = false := by simp; omega
    have HR : Hid (R = lexGo s (s.size + 1) 0 (-1) []) := by show R = _; rw [hR]; unfold lexAll; rw [if_neg hbig]
    have hsm : s.size ≤ 65536 := by omega
    clear hR hbig
    go_enter Tryz.func19, Tryz.ntmps19
    go_wp2_with fail
    refine (scanNew_any s _).mono ?_
    rintro e1 w1 ⟨bc, hbc, rfl, hc1, hk1⟩
    have hD1 := hk1.blk (Blk.new w #[.int .i64 0, .int .i64 0, .int .i64 0, .int .i64 0] 30) (fun h => h)
    have hsz1 : w.heap.size + 1 ≤ bc := by simpa using hbc
    have hsz2 : bc < w1.heap.size := Blk.lt hc1
    have hkw1 : Keep (fun _ => False) w w1 := ((Keep.refl _ w).alloc _).trans hk1
    obtain ⟨W, hW⟩ : ∃ W, W = w1.alloc (.cells #[.pointer (some ⟨bc, 0, none⟩), .int .i64 0, .string s, .slice none 0 0, .int .i64 (-1)] 91) := ⟨_, rfl⟩
    have hBL : Blk W w1.heap.size #[.pointer (some ⟨bc, 0, none⟩), .int .i64 0, .string s, .slice none 0 0, .int .i64 (-1)] 91 := by rw [hW]; exact Blk.new _ _ _
    have hkW : Keep (fun _ => False) w1 W := by rw [hW]; exact (Keep.refl _ w1).alloc _
    have hScW : Sc W (w.heap.size + 1) 91 w1.heap.size bc 0 s 0 (.slice none 0 0) [] (-1) :=
      ⟨hBL, hkW.blk hc1 (fun h => h), World.ownsRow_nil _ _ _ _, by omega, by omega, hsz1, by decide, by decide, hs, Nat.zero_le _, by simp, by omega⟩
    have hDW := hkW.blk hD1 (fun h => h)
    obtain ⟨bl, hbl⟩ : ∃ bl, bl = w1.heap.size := ⟨_, rfl⟩
    have HWQ := Lib.hid hW
    have HGB : Hid (Glob (w.heap.size + 1) W) := (hg.keep (hkw1.trans hkW) (Nat.le_refl _) (fun _ h => h.elim)).mono (by omega)
    have HBW : Hid (Below w.heap.size w W) := (hkw1.trans hkW).belowB (Nat.le_refl _)
    have HSW := Lib.hid hScW
    have HDW := Lib.hid hDW
    have hWs : w.heap.size + 1 ≤ W.heap.size := hScW.base_le
    clear hW hkW hBL hc1 hk1 hD1 hg hScW hDW hkw1
    go_wp2_with fail
    rw [← HWQ.out, ← hbl]
    rw [← hbl] at HSW
    obtain ⟨B, hB⟩ : ∃ B, B = w.heap.size + 1 := ⟨_, rfl⟩
    rw [← hB] at HSW HGB hWs
    have HBB := Lib.hid hB
    clear hB HWQ hbl
    go_loopw [9] (fun _ wr => ∃ (p : Nat) (v : Value) (l : List TokL) (last : Int) (f : Nat), Sc wr B 91 bl bc 0 s p v l last ∧ Below B W wr ∧ Hid (lexGo s f p last l = R) ∧ s.size - p < f ∧ l.length ≤ p) (fun _ wr => s.size - curPos wr bc)
    case atStart => exact ⟨0, _, [], -1, s.size + 1, HSW.out, Below.refl _ _, HR.out.symm, by omega, by simp⟩
    case round =>
      obtain ⟨p, v, l, last, f, hSc, hbel, HG, hf, hlp⟩ := hrel
      have hcp := curPos_of hSc.c
      have hp := hSc.hp
      have hll : l.length ≤ 900000 := by omega
      obtain ⟨f, rfl⟩ : ∃ m, f = m + 1 := ⟨f - 1, by omega⟩
      have hG := HG.out
      rw [lexGo] at hG
      obtain ⟨q, hq⟩ : ∃ q, q = p + spanAt blankB s p := ⟨_, rfl⟩
      have hqs : q ≤ s.size := by rw [hq]; exact spanAt_le blankB s p hp
      have hpq : p ≤ q := by omega
      rw [← hq] at hG
      have HWH : Hid (Calls Tryz.prog 41 #[.pointer (some ⟨bc, 0, none⟩), .string ⟨#[32, 9, 13, 10]⟩] wr fun e w' => (∃ x, e = .returned (.string x)) ∧ Sc w' B 91 bl bc 0 s q v l last ∧ Keep (· = bc) wr w') := by
        have := while_any bc s ⟨#[32, 9, 13, 10]⟩ p wr hSc.c hSc.hs hp
        rw [inBlank, ← hq] at this
        refine this.mono ?_
        rintro e w' ⟨rfl, hc, hk⟩
        exact ⟨⟨_, rfl⟩, ⟨hk.blk hSc.b hSc.ne, hc, ownsRow_keep hSc.o hk (ownsRow_ne hSc.o hSc.c (by decide)), hSc.ne, hSc.hbl, hSc.hbc, hSc.T1, hSc.T2, hSc.hs, hqs, hSc.hl, hSc.hlast⟩, hk⟩
      have HGG := Lib.hid hG
      have HQ := Lib.hid hq
      have HCP := Lib.hid hcp
      have c0 := hSc.b.c0
      clear hG hq hcp HG
      go_wp2_with fail
      refine HWH.out.mono ?_
      rintro e2 w2 ⟨⟨x, rfl⟩, hS2, hk2⟩
      have hb2 : Below B wr w2 := hk2.below hSc.base_le (fun k hk => by rw [hk]; exact hSc.hbc)
      have HB2 := Lib.hid (hbel.trans hb2)
      have c02 := hS2.b.c0
      clear hk2 hb2 HWH c0
      go_wp2_with fail
      refine (hS2.pos (Keep.refl _ _)).mono ?_
      rintro e3 w3 ⟨rfl, hk3⟩
      have c03 := hk3.cell c02 (fun h => h)
      have c0W : (w3.alloc (.cells #[.int .i64 q, .int .i64 (lineAt s q), .int .i64 (colAt s q)] 28)).cell? ⟨bl, 0, none⟩ = some (.pointer (some ⟨bc, 0, none⟩)) := ((Keep.refl (fun _ => False) w3).alloc _).cell c03 (fun h => h)
      obtain ⟨W3, hW3⟩ : ∃ W, W = w3.alloc (.cells #[.int .i64 q, .int .i64 (lineAt s q), .int .i64 (colAt s q)] 28) := ⟨_, rfl⟩
      have hK3 : Keep (fun _ => False) w2 W3 := by rw [hW3]; exact hk3.alloc _
      have hBP : Blk W3 w3.heap.size #[.int .i64 q, .int .i64 (lineAt s q), .int .i64 (colAt s q)] 28 := by rw [hW3]; exact Blk.new _ _ _
      have hS3 := hS2.grow hK3
      have HW3 := Lib.hid hW3
      have HLT3 : Hid (w2.heap.size ≤ w3.heap.size) := hk3.size
      have HB3 := Lib.hid (HB2.out.trans (hK3.belowB hS2.base_le))
      clear hW3 hk3
      have PK := peek_any bc s q 0 W3 hS3.c hSc.hs hqs
      rw [Nat.add_zero] at PK
      by_cases hqe : q < s.size
      · have e4 : peekV s q = .tuple #[.int .u8 (s[q]'hqe).toNat, .bool true] := by unfold peekV; rw [dif_pos hqe]
        rw [e4] at PK
        obtain ⟨c, hc⟩ : ∃ c, c = s[q]'hqe := ⟨_, rfl⟩
        rw [← hc] at PK
        have HPK := Lib.hid PK
        have HC := Lib.hid hc
        clear PK e4 hc
        have hG := HGG.out
        rw [if_pos hqe] at hG
        obtain ⟨F, hF⟩ : ∃ F, F = tokOf ((bs s).drop q) := ⟨_, rfl⟩
        rw [← hF] at hG
        have HF := Lib.hid hF
        have HG2 := Lib.hid hG
        clear hF hG
        go_wp2_with fail
        rw [← HW3.out]
        refine HPK.out.mono ?_
        rintro e4 w4 ⟨rfl, hd4⟩
        have hS4 := hS3.grow hd4.keep
        have hBP4 := hd4.blk hBP
        have HB4 := Lib.hid (HB3.out.trans ((hd4.keep (P := fun _ => False)).belowB hS3.base_le))
        clear hd4 HPK c02 c03 c0W HW3
        have hne : bl ≠ bc := hSc.ne
        have hnebp : w3.heap.size ≠ bc := by
          intro e
          have h1 := Blk.lt hS2.c
          have h2 := HLT3.out
          omega
        by_cases hnb : noteBegins ((bs s).drop q) = true
        · obtain ⟨t, u, er, hrd⟩ : ∃ t u er, noteRead ((bs s).drop q) = (t, u, er) := ⟨_, _, _, rfl⟩
          by_cases her : er = 0
          · subst her
            have HF1 : Hid (F = ⟨0, 6, t, 0, u⟩) := by show F = _; rw [HF.out]; unfold tokOf; rw [if_pos hnb, hrd, if_pos rfl]
            have HE0 : Hid (F.err = 0) := by show F.err = 0; rw [HF1.out]
            have HGZ : Hid (lexGo s f (q + F.len) ((lineAt s (q + F.len) : Nat) : Int) (l ++ [tokAt s q last F]) = R) := by
              have h1 := HG2.out
              rw [if_pos HE0.out] at h1
              exact h1
            have HN := Lib.hid (note_ok B 91 bl bc s q v l last w4 hS4 hnb t u hrd hll)
            clear hnb hrd
            go_wp2_with fail
            refine HN.out.mono ?_
            rintro e5 w5 ⟨rfl, ⟨vz, hSz⟩, hbz⟩
            have HSZ : Hid (Sc w5 B 91 bl bc 0 s (q + F.len) vz (l ++ [tokAt s q last F]) ((lineAt s (q + F.len) : Nat) : Int)) := by
              show Sc _ _ _ _ _ _ _ _ _ _ _
              unfold tokAt; rw [HF1.out]; exact hSz
            have HBZ := Lib.hid (HB4.out.trans hbz)
            have HCPZ := Lib.hid (curPos_of HSZ.out.c)
            clear hSz hbz
            have hFl := tokOf_len ((bs s).drop q) (by rw [List.length_drop, bs_len]; omega) (by rw [← HF.out]; exact HE0.out)
            rw [← HF.out, List.length_drop, bs_len] at hFl
            have hcpz := HCPZ.out
            go_wp2_with fail
            go_roundw
            case rel => exact ⟨q + F.len, vz, l ++ [tokAt s q last F], ((lineAt s (q + F.len) : Nat) : Int), f, HSZ.out, HBZ.out, HGZ.out, by omega, by simp; omega⟩
            case measure =>
              rw [HCP.out, hcpz]
              omega
          · have HF1 : Hid (F = fail er) := by show F = _; rw [HF.out]; unfold tokOf; rw [if_pos hnb, hrd, if_neg her]
            have HG3 : Hid (R = ⟨[], er, posA s q⟩) := by
              show R = _
              have h1 := HG2.out
              rw [HF1.out, if_neg (show ¬ (fail er).err = 0 from her)] at h1
              exact h1.symm
            have HN := Lib.hid (note_err B 91 bl bc s q v l last w4 hS4 hnb t u er hrd her)
            have te : ((er : Int) != 0) = true := by rw [bne_iff_ne]; omega
            clear hnb hrd her
            go_wp2_with fail
            refine HN.out.mono ?_
            rintro e5 w5 ⟨rfl, hk5⟩
            have hkE : Keep (· = bc) w4 w5 := hk5.mono (fun _ _ h => h.elim)
            have hBPE := hkE.blk hBP4 hnebp
            have hBelE := HB4.out.trans (hkE.below hS4.base_le (fun k hk => by rw [hk]; exact hSc.hbc))
            have hDE : Blk _ w.heap.size #[.int .i64 0, .int .i64 0, .int .i64 0, .int .i64 0] 30 := (hBelE.block w.heap.size (by rw [HBB.out]; omega)).trans HDW.out
            have d0 := hBPE.at_ 0 (v := .int .i64 q) rfl
            have d1 := hBPE.at_ 1 (v := .int .i64 (lineAt s q)) rfl
            have d2 := hBPE.at_ 2 (v := .int .i64 (colAt s q)) rfl
            have g0 := hDE.at_ 0 (v := .int .i64 0) rfl
            have g1 := hDE.at_ 1 (v := .int .i64 0) rfl
            have g2 := hDE.at_ 2 (v := .int .i64 0) rfl
            have g3 := hDE.at_ 3 (v := .int .i64 0) rfl
            have f0 := hDE.free 0
            have f1 := hDE.free 1
            have f2 := hDE.free 2
            have f3 := hDE.free 3
            have HBE := Lib.hid hBelE
            have HDE := Lib.hid hDE
            clear hBelE hDE hBPE
            go_wp2_with fail
            go_region
            go_wp2_with fail
            have x0 := (HDE.out.set 0 (.int .i64 er)).at_ 0 (v := .int .i64 er) (by simp)
            have x1 := ((HDE.out.set 0 (.int .i64 er)).set 1 (.int .i64 q)).at_ 1 (v := .int .i64 q) (by simp)
            have x2 := (((HDE.out.set 0 (.int .i64 er)).set 1 (.int .i64 q)).set 2 (.int .i64 (lineAt s q))).at_ 2 (v := .int .i64 (lineAt s q)) (by simp)
            have x3 := ((((HDE.out.set 0 (.int .i64 er)).set 1 (.int .i64 q)).set 2 (.int .i64 (lineAt s q))).set 3 (.int .i64 (colAt s q))).at_ 3 (v := .int .i64 (colAt s q)) (by simp)
            refine bodyPost_ret (v := .tuple #[.slice none 0 0, .agg #[.int .i64 er, .int .i64 q, .int .i64 (lineAt s q), .int .i64 (colAt s q)]]) (by simp [results, Tryz.results19, go_sem, x0, x1, x2, x3]) rfl ?_
            unfold AllPost
            rw [HG3.out]
            refine ⟨_, rfl, World.ownsRow_nil _ _ _ _, ?_⟩
            have hb1 := HBW.out.trans (HBE.out.mono (by have := HBB.out; omega))
            exact ((((hb1.setCell (p := ⟨w.heap.size, 0, none⟩) (Nat.le_refl _) _).setCell (p := ⟨w.heap.size, 1, none⟩) (Nat.le_refl _) _).setCell (p := ⟨w.heap.size, 2, none⟩) (Nat.le_refl _) _).setCell (p := ⟨w.heap.size, 3, none⟩) (Nat.le_refl _) _).drew
        · have hnbf : noteBegins ((bs s).drop q) = false := by simpa using hnb
          have HF1 : Hid (F = tokPlain ((bs s).drop q)) := by show F = _; rw [HF.out]; unfold tokOf; rw [if_neg hnb]
          have HN := Lib.hid (note_no B 91 bl bc s q v l last w4 hS4 hnbf)
          have HNX : Hid (∀ w', Keep (fun _ => False) w4 w' → Calls Tryz.prog 46 #[.pointer (some ⟨bl, 0, none⟩), .int .u8 (c.toNat : Int)] w' (PlainPost B bl bc s q l last w' F)) := fun w' hk =>
            next_any' B bl bc s q v l last w' (hS4.grow hk) hll ((HGB.out.below (HB4.out.trans (hk.belowB hS4.base_le)) (Nat.le_refl _))) hqe c HC.out F HF1.out
          clear hnb hnbf
          go_wp2_with fail
          refine HN.out.mono ?_
          rintro e5 w5 ⟨rfl, hk5⟩
          have HK5 := Lib.hid hk5
          clear hk5
          go_wp2_with fail
          refine (HNX.out _ HK5.out).mono ?_
          rintro e6 w6 ⟨rfl, hb6, hke6, hL6⟩
          have HKE := Lib.hid hke6
          have HL6 := Lib.hid hL6
          have HB6 := Lib.hid hb6
          clear hke6 hL6 hb6
          by_cases her : F.err = 0
          · have HE0 := Lib.hid her
            have te : ((F.err : Int) != 0) = false := by rw [her]; rfl
            have HGZ : Hid (lexGo s f (q + F.len) ((lineAt s (q + F.len) : Nat) : Int) (l ++ [tokAt s q last F]) = R) := by
              have h1 := HG2.out
              rw [if_pos her] at h1
              exact h1
            obtain ⟨⟨vz, hSz⟩, hbz⟩ := HL6.out her
            have HSZ : Hid (Sc w6 B 91 bl bc 0 s (q + F.len) vz (l ++ [tokAt s q last F]) ((lineAt s (q + F.len) : Nat) : Int)) := hSz
            have HBZ := Lib.hid ((HB4.out.trans (HK5.out.belowB hS4.base_le)).trans hbz)
            have HCPZ := Lib.hid (curPos_of HSZ.out.c)
            clear hSz hbz her
            have hFl := tokOf_len ((bs s).drop q) (by rw [List.length_drop, bs_len]; omega) (by rw [← HF.out]; exact HE0.out)
            rw [← HF.out, List.length_drop, bs_len] at hFl
            have hcpz := HCPZ.out
            go_wp2_with fail
            go_roundw
            case rel => exact ⟨q + F.len, vz, l ++ [tokAt s q last F], ((lineAt s (q + F.len) : Nat) : Int), f, HSZ.out, HBZ.out, HGZ.out, by omega, by simp; omega⟩
            case measure =>
              rw [HCP.out, hcpz]
              omega
          · have te : ((F.err : Int) != 0) = true := by rw [bne_iff_ne]; omega
            have HG3 : Hid (R = ⟨[], F.err, posA s q⟩) := by
              show R = _
              have h1 := HG2.out
              rw [if_neg her] at h1
              exact h1.symm
            have hkE : Keep (· = bc) w4 w6 := (HK5.out.mono (fun _ _ h => h.elim)).trans (HKE.out her)
            have hBPE := hkE.blk hBP4 hnebp
            have hBelE := HB4.out.trans (hkE.below hS4.base_le (fun k hk => by rw [hk]; exact hSc.hbc))
            have hDE : Blk _ w.heap.size #[.int .i64 0, .int .i64 0, .int .i64 0, .int .i64 0] 30 := (hBelE.block w.heap.size (by rw [HBB.out]; omega)).trans HDW.out
            have d0 := hBPE.at_ 0 (v := .int .i64 q) rfl
            have d1 := hBPE.at_ 1 (v := .int .i64 (lineAt s q)) rfl
            have d2 := hBPE.at_ 2 (v := .int .i64 (colAt s q)) rfl
            have g0 := hDE.at_ 0 (v := .int .i64 0) rfl
            have g1 := hDE.at_ 1 (v := .int .i64 0) rfl
            have g2 := hDE.at_ 2 (v := .int .i64 0) rfl
            have g3 := hDE.at_ 3 (v := .int .i64 0) rfl
            have f0 := hDE.free 0
            have f1 := hDE.free 1
            have f2 := hDE.free 2
            have f3 := hDE.free 3
            have HBE := Lib.hid hBelE
            have HDE := Lib.hid hDE
            clear hBelE hDE hBPE
            go_wp2_with fail
            go_region
            go_wp2_with fail
            have x0 := (HDE.out.set 0 (.int .i64 F.err)).at_ 0 (v := .int .i64 F.err) (by simp)
            have x1 := ((HDE.out.set 0 (.int .i64 F.err)).set 1 (.int .i64 q)).at_ 1 (v := .int .i64 q) (by simp)
            have x2 := (((HDE.out.set 0 (.int .i64 F.err)).set 1 (.int .i64 q)).set 2 (.int .i64 (lineAt s q))).at_ 2 (v := .int .i64 (lineAt s q)) (by simp)
            have x3 := ((((HDE.out.set 0 (.int .i64 F.err)).set 1 (.int .i64 q)).set 2 (.int .i64 (lineAt s q))).set 3 (.int .i64 (colAt s q))).at_ 3 (v := .int .i64 (colAt s q)) (by simp)
            refine bodyPost_ret (v := .tuple #[.slice none 0 0, .agg #[.int .i64 F.err, .int .i64 q, .int .i64 (lineAt s q), .int .i64 (colAt s q)]]) (by simp [results, Tryz.results19, go_sem, x0, x1, x2, x3]) rfl ?_
            unfold AllPost
            rw [HG3.out]
            refine ⟨_, rfl, World.ownsRow_nil _ _ _ _, ?_⟩
            have hb1 := HBW.out.trans (HBE.out.mono (by have := HBB.out; omega))
            exact ((((hb1.setCell (p := ⟨w.heap.size, 0, none⟩) (Nat.le_refl _) _).setCell (p := ⟨w.heap.size, 1, none⟩) (Nat.le_refl _) _).setCell (p := ⟨w.heap.size, 2, none⟩) (Nat.le_refl _) _).setCell (p := ⟨w.heap.size, 3, none⟩) (Nat.le_refl _) _).drew
      · have hqe2 : q = s.size := by omega
        have e4 : peekV s q = .tuple #[.int .u8 0, .bool false] := by unfold peekV; rw [dif_neg hqe]
        rw [e4] at PK
        have HPK := Lib.hid PK
        clear PK e4
        have HG3 : Hid (R = ⟨l ++ [endAt s q last], 0, (0, 0, 0)⟩) := by
          show R = _
          have h1 := HGG.out
          rw [if_neg hqe] at h1
          exact h1.symm
        clear hqe2
        go_wp2_with fail
        rw [← HW3.out]
        refine HPK.out.mono ?_
        rintro e4 w4 ⟨rfl, hd4⟩
        have hS4 := hS3.grow hd4.keep
        have hBP4 := hd4.blk hBP
        have HB4 := Lib.hid (HB3.out.trans ((hd4.keep (P := fun _ => False)).belowB hS3.base_le))
        have d0 := hBP4.at_ 0 (v := .int .i64 q) rfl
        have d1 := hBP4.at_ 1 (v := .int .i64 (lineAt s q)) rfl
        have d2 := hBP4.at_ 2 (v := .int .i64 (colAt s q)) rfl
        clear hd4 HPK c02 c03 c0W HW3
        go_wp2_with fail
        go_region_with (go_at_call 44; refine (add_any B 91 bl bc 0 s q v l last _ hS4.drew hll 0 ⟨#[]⟩ 0 false 0 0 0 q (lineAt s q) (colAt s q)).mono ?_; rintro e5 w5 ⟨rfl, ⟨vz, hSz⟩, hbz⟩; have HSZ := Lib.hid hSz; have HBZ := Lib.hid hbz; have k3 := hSz.b.c3; clear hSz hbz)
        all_goals
          have hBelE := HB4.out.drew.trans HBZ.out
          have hDE : Blk _ w.heap.size #[.int .i64 0, .int .i64 0, .int .i64 0, .int .i64 0] 30 := (hBelE.block w.heap.size (by rw [HBB.out]; omega)).trans HDW.out
          have g0 := hDE.at_ 0 (v := .int .i64 0) rfl
          have g1 := hDE.at_ 1 (v := .int .i64 0) rfl
          have g2 := hDE.at_ 2 (v := .int .i64 0) rfl
          have g3 := hDE.at_ 3 (v := .int .i64 0) rfl
          have f0 := hDE.free 0
          have f1 := hDE.free 1
          have f2 := hDE.free 2
          have f3 := hDE.free 3
          have HBE := Lib.hid hBelE
          have HDE := Lib.hid hDE
          clear hBelE hDE d0 d1 d2
          go_wp2_with fail
          have x0 := (HDE.out.set 0 (.int .i64 0)).at_ 0 (v := .int .i64 0) (by simp)
          have x1 := ((HDE.out.set 0 (.int .i64 0)).set 1 (.int .i64 0)).at_ 1 (v := .int .i64 0) (by simp)
          have x2 := (((HDE.out.set 0 (.int .i64 0)).set 1 (.int .i64 0)).set 2 (.int .i64 0)).at_ 2 (v := .int .i64 0) (by simp)
          have x3 := ((((HDE.out.set 0 (.int .i64 0)).set 1 (.int .i64 0)).set 2 (.int .i64 0)).set 3 (.int .i64 0)).at_ 3 (v := .int .i64 0) (by simp)
          refine bodyPost_ret (v := .tuple #[vz, .agg #[.int .i64 0, .int .i64 0, .int .i64 0, .int .i64 0]]) (by simp [results, Tryz.results19, go_sem, x0, x1, x2, x3]) rfl ?_
          unfold AllPost
          rw [HG3.out]
          refine ⟨_, rfl, ?_, ?_⟩
          · have ho := HSZ.out.o
            have hlo : ∀ k, vz.ownBlock = some k → B ≤ k := fun k hk => (World.ownsRow.lt (show World.ownsRow _ _ _ _ _ _ _ from ho) k hk).1
            have hK : Keep (· = w.heap.size) w5 (((((w5.setCell ⟨w.heap.size, 0, none⟩ (.int .i64 0)).setCell ⟨w.heap.size, 1, none⟩ (.int .i64 0)).setCell ⟨w.heap.size, 2, none⟩ (.int .i64 0)).setCell ⟨w.heap.size, 3, none⟩ (.int .i64 0))) := ((((Keep.refl (· = w.heap.size) w5).set1 0 _).set1 1 _).set1 2 _).set1 3 _
            have h2 := ownsRow_keep ho hK (fun k hk e => by have := hlo k hk; have := HBB.out; omega)
            exact ownsRow_lower h2 (by have := HBB.out; omega)
          · have hb1 := HBW.out.trans (HBE.out.mono (by have := HBB.out; omega))
            exact ((((hb1.setCell (p := ⟨w.heap.size, 0, none⟩) (Nat.le_refl _) _).setCell (p := ⟨w.heap.size, 1, none⟩) (Nat.le_refl _) _).setCell (p := ⟨w.heap.size, 2, none⟩) (Nat.le_refl _) _).setCell (p := ⟨w.heap.size, 3, none⟩) (Nat.le_refl _) _)
end Go.Proofs.YtgmmjhelcpgakaaGreatDoor
/- Rows of tokens, cell by cell. -/
namespace Go.Proofs.YtgmmjhelcpgakaaGreatDoor
open Go.RowKit
set_option linter.unusedVariables false
set_option linter.unusedSimpArgs false

/-- Element i of a row of tokens, cell by cell. -/
theorem OwnToks.cell {w : World} {base g c : Nat} {l : List TokL} (h : OwnToks w base (.slice (some ⟨g, 0, none⟩) l.length c) l) (i : Nat) (t : TokL) (ht : l[i]? = some t) (j : Nat) (hj : j < 7) : w.cell? ⟨g, i * 7 + j, none⟩ = (tokC t)[j]? := by
  have hil : i < l.length := (List.getElem?_eq_some_iff.1 ht).1
  rw [World.ownsRow.cellAt (show World.ownsRow _ _ _ _ _ _ _ from h) (i * 7 + j) (by omega)]
  unfold toksC
  have key : ∀ (l : List TokL) (i : Nat), l[i]? = some t → (l.flatMap tokC)[i * 7 + j]? = (tokC t)[j]? := by
    intro l
    induction l with
    | nil => intro i h; simp at h
    | cons a l ih =>
      intro i h
      have hlen : (tokC a).length = 7 := rfl
      cases i with
      | zero =>
        simp only [List.getElem?_cons_zero, Option.some.injEq] at h
        subst h
        rw [List.flatMap_cons, List.getElem?_append_left (by rw [hlen]; omega)]
        simp
      | succ i =>
        rw [List.flatMap_cons, List.getElem?_append_right (by rw [hlen]; omega), hlen, show (i + 1) * 7 + j - 7 = i * 7 + j from by omega]
        exact ih i (by simpa using h)
  exact key l i ht
theorem OwnToks.shape {w : World} {base : Nat} {v : Value} {l : List TokL} (h : OwnToks w base v l) (hl : 0 < l.length) : ∃ g c, v = .slice (some ⟨g, 0, none⟩) l.length c ∧ base ≤ g ∧ g < w.heap.size := by
  rcases h.2 with ⟨_, h0⟩ | ⟨g, cap, cur, rfl, hb, hg, _⟩
  · omega
  · exact ⟨g, cap, rfl, hb, Blk.lt (cs := cur) (t := 50) hg⟩

end Go.Proofs.YtgmmjhelcpgakaaGreatDoor
/- Small blocks, written and read cell by cell. -/
namespace Go.Proofs.YtgmmjhelcpgakaaGreatDoor
open Go.RowKit
set_option linter.unusedVariables false
set_option linter.unusedSimpArgs false

theorem Blk.drew {w : World} {b t : Nat} {cs : Array Value} (h : Blk w b cs t) : Blk w.drew b cs t := h
theorem Blk.set2 {w : World} {b t : Nat} {a0 a1 : Value} (h : Blk w b #[a0, a1] t) (v0 v1 : Value) :
    Blk ((w.setCell ⟨b, 0, none⟩ v0).setCell ⟨b, 1, none⟩ v1) b #[v0, v1] t := by
  have := ((h.set 0 v0).set 1 v1)
  simpa using this
theorem Keep.set2 {w w1 : World} {b : Nat} (h : Keep (fun _ => False) w w1) (hb : w.heap.size ≤ b) (v0 v1 : Value) :
    Keep (fun _ => False) w ((w1.setCell ⟨b, 0, none⟩ v0).setCell ⟨b, 1, none⟩ v1) := by
  have hp : ∀ i : Nat, (⟨b, i, none⟩ : Addr).block < w.heap.size → False := fun i hi => absurd hi (Nat.not_lt.2 hb)
  exact ((h.setCell (hp 0) v0).setCell (hp 1) v1)
theorem Keep.put2 {w w1 : World} {b : Nat} {P : Nat → Prop} (h : Keep P w w1) (hb : w.heap.size ≤ b ∨ P b) (v0 v1 : Value) :
    Keep P w ((w1.setCell ⟨b, 0, none⟩ v0).setCell ⟨b, 1, none⟩ v1) := by
  have hp : ∀ i : Nat, (⟨b, i, none⟩ : Addr).block < w.heap.size → P b := fun i hi => hb.elim (fun h => absurd hi (Nat.not_lt.2 h)) id
  exact ((h.setCell (hp 0) v0).setCell (hp 1) v1)
theorem Blk.all2 {w : World} {b t : Nat} {a0 a1 : Value} (h : Blk w b #[a0, a1] t) : w.cell? ⟨b, 0, none⟩ = some a0 ∧ w.cell? ⟨b, 1, none⟩ = some a1 ∧ w.frozen? ⟨b, 0, none⟩ = false ∧ w.frozen? ⟨b, 1, none⟩ = false :=
  ⟨h.at_ 0 rfl, h.at_ 1 rfl, h.free 0, h.free 1⟩
theorem Blk.put2 {w : World} {b t c : Nat} {cs : Array Value} (h : Blk w c cs t) (hb : c ≠ b) (v0 v1 : Value) :
    Blk ((w.setCell ⟨b, 0, none⟩ v0).setCell ⟨b, 1, none⟩ v1) c cs t := by
  exact (Blk.far (Blk.far h (p := ⟨b, 0, none⟩) hb v0) (p := ⟨b, 1, none⟩) hb v1)
theorem Blk.set3 {w : World} {b t : Nat} {a0 a1 a2 : Value} (h : Blk w b #[a0, a1, a2] t) (v0 v1 v2 : Value) :
    Blk (((w.setCell ⟨b, 0, none⟩ v0).setCell ⟨b, 1, none⟩ v1).setCell ⟨b, 2, none⟩ v2) b #[v0, v1, v2] t := by
  have := (((h.set 0 v0).set 1 v1).set 2 v2)
  simpa using this
theorem Keep.set3 {w w1 : World} {b : Nat} (h : Keep (fun _ => False) w w1) (hb : w.heap.size ≤ b) (v0 v1 v2 : Value) :
    Keep (fun _ => False) w (((w1.setCell ⟨b, 0, none⟩ v0).setCell ⟨b, 1, none⟩ v1).setCell ⟨b, 2, none⟩ v2) := by
  have hp : ∀ i : Nat, (⟨b, i, none⟩ : Addr).block < w.heap.size → False := fun i hi => absurd hi (Nat.not_lt.2 hb)
  exact (((h.setCell (hp 0) v0).setCell (hp 1) v1).setCell (hp 2) v2)
theorem Keep.put3 {w w1 : World} {b : Nat} {P : Nat → Prop} (h : Keep P w w1) (hb : w.heap.size ≤ b ∨ P b) (v0 v1 v2 : Value) :
    Keep P w (((w1.setCell ⟨b, 0, none⟩ v0).setCell ⟨b, 1, none⟩ v1).setCell ⟨b, 2, none⟩ v2) := by
  have hp : ∀ i : Nat, (⟨b, i, none⟩ : Addr).block < w.heap.size → P b := fun i hi => hb.elim (fun h => absurd hi (Nat.not_lt.2 h)) id
  exact (((h.setCell (hp 0) v0).setCell (hp 1) v1).setCell (hp 2) v2)
theorem Blk.all3 {w : World} {b t : Nat} {a0 a1 a2 : Value} (h : Blk w b #[a0, a1, a2] t) : w.cell? ⟨b, 0, none⟩ = some a0 ∧ w.cell? ⟨b, 1, none⟩ = some a1 ∧ w.cell? ⟨b, 2, none⟩ = some a2 ∧ w.frozen? ⟨b, 0, none⟩ = false ∧ w.frozen? ⟨b, 1, none⟩ = false ∧ w.frozen? ⟨b, 2, none⟩ = false :=
  ⟨h.at_ 0 rfl, h.at_ 1 rfl, h.at_ 2 rfl, h.free 0, h.free 1, h.free 2⟩
theorem Blk.put3 {w : World} {b t c : Nat} {cs : Array Value} (h : Blk w c cs t) (hb : c ≠ b) (v0 v1 v2 : Value) :
    Blk (((w.setCell ⟨b, 0, none⟩ v0).setCell ⟨b, 1, none⟩ v1).setCell ⟨b, 2, none⟩ v2) c cs t := by
  exact (Blk.far (Blk.far (Blk.far h (p := ⟨b, 0, none⟩) hb v0) (p := ⟨b, 1, none⟩) hb v1) (p := ⟨b, 2, none⟩) hb v2)
theorem Blk.set4 {w : World} {b t : Nat} {a0 a1 a2 a3 : Value} (h : Blk w b #[a0, a1, a2, a3] t) (v0 v1 v2 v3 : Value) :
    Blk ((((w.setCell ⟨b, 0, none⟩ v0).setCell ⟨b, 1, none⟩ v1).setCell ⟨b, 2, none⟩ v2).setCell ⟨b, 3, none⟩ v3) b #[v0, v1, v2, v3] t := by
  have := ((((h.set 0 v0).set 1 v1).set 2 v2).set 3 v3)
  simpa using this
theorem Keep.set4 {w w1 : World} {b : Nat} (h : Keep (fun _ => False) w w1) (hb : w.heap.size ≤ b) (v0 v1 v2 v3 : Value) :
    Keep (fun _ => False) w ((((w1.setCell ⟨b, 0, none⟩ v0).setCell ⟨b, 1, none⟩ v1).setCell ⟨b, 2, none⟩ v2).setCell ⟨b, 3, none⟩ v3) := by
  have hp : ∀ i : Nat, (⟨b, i, none⟩ : Addr).block < w.heap.size → False := fun i hi => absurd hi (Nat.not_lt.2 hb)
  exact ((((h.setCell (hp 0) v0).setCell (hp 1) v1).setCell (hp 2) v2).setCell (hp 3) v3)
theorem Keep.put4 {w w1 : World} {b : Nat} {P : Nat → Prop} (h : Keep P w w1) (hb : w.heap.size ≤ b ∨ P b) (v0 v1 v2 v3 : Value) :
    Keep P w ((((w1.setCell ⟨b, 0, none⟩ v0).setCell ⟨b, 1, none⟩ v1).setCell ⟨b, 2, none⟩ v2).setCell ⟨b, 3, none⟩ v3) := by
  have hp : ∀ i : Nat, (⟨b, i, none⟩ : Addr).block < w.heap.size → P b := fun i hi => hb.elim (fun h => absurd hi (Nat.not_lt.2 h)) id
  exact ((((h.setCell (hp 0) v0).setCell (hp 1) v1).setCell (hp 2) v2).setCell (hp 3) v3)
theorem Blk.all4 {w : World} {b t : Nat} {a0 a1 a2 a3 : Value} (h : Blk w b #[a0, a1, a2, a3] t) : w.cell? ⟨b, 0, none⟩ = some a0 ∧ w.cell? ⟨b, 1, none⟩ = some a1 ∧ w.cell? ⟨b, 2, none⟩ = some a2 ∧ w.cell? ⟨b, 3, none⟩ = some a3 ∧ w.frozen? ⟨b, 0, none⟩ = false ∧ w.frozen? ⟨b, 1, none⟩ = false ∧ w.frozen? ⟨b, 2, none⟩ = false ∧ w.frozen? ⟨b, 3, none⟩ = false :=
  ⟨h.at_ 0 rfl, h.at_ 1 rfl, h.at_ 2 rfl, h.at_ 3 rfl, h.free 0, h.free 1, h.free 2, h.free 3⟩
theorem Blk.put4 {w : World} {b t c : Nat} {cs : Array Value} (h : Blk w c cs t) (hb : c ≠ b) (v0 v1 v2 v3 : Value) :
    Blk ((((w.setCell ⟨b, 0, none⟩ v0).setCell ⟨b, 1, none⟩ v1).setCell ⟨b, 2, none⟩ v2).setCell ⟨b, 3, none⟩ v3) c cs t := by
  exact (Blk.far (Blk.far (Blk.far (Blk.far h (p := ⟨b, 0, none⟩) hb v0) (p := ⟨b, 1, none⟩) hb v1) (p := ⟨b, 2, none⟩) hb v2) (p := ⟨b, 3, none⟩) hb v3)
theorem Blk.set5 {w : World} {b t : Nat} {a0 a1 a2 a3 a4 : Value} (h : Blk w b #[a0, a1, a2, a3, a4] t) (v0 v1 v2 v3 v4 : Value) :
    Blk (((((w.setCell ⟨b, 0, none⟩ v0).setCell ⟨b, 1, none⟩ v1).setCell ⟨b, 2, none⟩ v2).setCell ⟨b, 3, none⟩ v3).setCell ⟨b, 4, none⟩ v4) b #[v0, v1, v2, v3, v4] t := by
  have := (((((h.set 0 v0).set 1 v1).set 2 v2).set 3 v3).set 4 v4)
  simpa using this
theorem Keep.set5 {w w1 : World} {b : Nat} (h : Keep (fun _ => False) w w1) (hb : w.heap.size ≤ b) (v0 v1 v2 v3 v4 : Value) :
    Keep (fun _ => False) w (((((w1.setCell ⟨b, 0, none⟩ v0).setCell ⟨b, 1, none⟩ v1).setCell ⟨b, 2, none⟩ v2).setCell ⟨b, 3, none⟩ v3).setCell ⟨b, 4, none⟩ v4) := by
  have hp : ∀ i : Nat, (⟨b, i, none⟩ : Addr).block < w.heap.size → False := fun i hi => absurd hi (Nat.not_lt.2 hb)
  exact (((((h.setCell (hp 0) v0).setCell (hp 1) v1).setCell (hp 2) v2).setCell (hp 3) v3).setCell (hp 4) v4)
theorem Keep.put5 {w w1 : World} {b : Nat} {P : Nat → Prop} (h : Keep P w w1) (hb : w.heap.size ≤ b ∨ P b) (v0 v1 v2 v3 v4 : Value) :
    Keep P w (((((w1.setCell ⟨b, 0, none⟩ v0).setCell ⟨b, 1, none⟩ v1).setCell ⟨b, 2, none⟩ v2).setCell ⟨b, 3, none⟩ v3).setCell ⟨b, 4, none⟩ v4) := by
  have hp : ∀ i : Nat, (⟨b, i, none⟩ : Addr).block < w.heap.size → P b := fun i hi => hb.elim (fun h => absurd hi (Nat.not_lt.2 h)) id
  exact (((((h.setCell (hp 0) v0).setCell (hp 1) v1).setCell (hp 2) v2).setCell (hp 3) v3).setCell (hp 4) v4)
theorem Blk.all5 {w : World} {b t : Nat} {a0 a1 a2 a3 a4 : Value} (h : Blk w b #[a0, a1, a2, a3, a4] t) : w.cell? ⟨b, 0, none⟩ = some a0 ∧ w.cell? ⟨b, 1, none⟩ = some a1 ∧ w.cell? ⟨b, 2, none⟩ = some a2 ∧ w.cell? ⟨b, 3, none⟩ = some a3 ∧ w.cell? ⟨b, 4, none⟩ = some a4 ∧ w.frozen? ⟨b, 0, none⟩ = false ∧ w.frozen? ⟨b, 1, none⟩ = false ∧ w.frozen? ⟨b, 2, none⟩ = false ∧ w.frozen? ⟨b, 3, none⟩ = false ∧ w.frozen? ⟨b, 4, none⟩ = false :=
  ⟨h.at_ 0 rfl, h.at_ 1 rfl, h.at_ 2 rfl, h.at_ 3 rfl, h.at_ 4 rfl, h.free 0, h.free 1, h.free 2, h.free 3, h.free 4⟩
theorem Blk.put5 {w : World} {b t c : Nat} {cs : Array Value} (h : Blk w c cs t) (hb : c ≠ b) (v0 v1 v2 v3 v4 : Value) :
    Blk (((((w.setCell ⟨b, 0, none⟩ v0).setCell ⟨b, 1, none⟩ v1).setCell ⟨b, 2, none⟩ v2).setCell ⟨b, 3, none⟩ v3).setCell ⟨b, 4, none⟩ v4) c cs t := by
  exact (Blk.far (Blk.far (Blk.far (Blk.far (Blk.far h (p := ⟨b, 0, none⟩) hb v0) (p := ⟨b, 1, none⟩) hb v1) (p := ⟨b, 2, none⟩) hb v2) (p := ⟨b, 3, none⟩) hb v3) (p := ⟨b, 4, none⟩) hb v4)
theorem Blk.set6 {w : World} {b t : Nat} {a0 a1 a2 a3 a4 a5 : Value} (h : Blk w b #[a0, a1, a2, a3, a4, a5] t) (v0 v1 v2 v3 v4 v5 : Value) :
    Blk ((((((w.setCell ⟨b, 0, none⟩ v0).setCell ⟨b, 1, none⟩ v1).setCell ⟨b, 2, none⟩ v2).setCell ⟨b, 3, none⟩ v3).setCell ⟨b, 4, none⟩ v4).setCell ⟨b, 5, none⟩ v5) b #[v0, v1, v2, v3, v4, v5] t := by
  have := ((((((h.set 0 v0).set 1 v1).set 2 v2).set 3 v3).set 4 v4).set 5 v5)
  simpa using this
theorem Keep.set6 {w w1 : World} {b : Nat} (h : Keep (fun _ => False) w w1) (hb : w.heap.size ≤ b) (v0 v1 v2 v3 v4 v5 : Value) :
    Keep (fun _ => False) w ((((((w1.setCell ⟨b, 0, none⟩ v0).setCell ⟨b, 1, none⟩ v1).setCell ⟨b, 2, none⟩ v2).setCell ⟨b, 3, none⟩ v3).setCell ⟨b, 4, none⟩ v4).setCell ⟨b, 5, none⟩ v5) := by
  have hp : ∀ i : Nat, (⟨b, i, none⟩ : Addr).block < w.heap.size → False := fun i hi => absurd hi (Nat.not_lt.2 hb)
  exact ((((((h.setCell (hp 0) v0).setCell (hp 1) v1).setCell (hp 2) v2).setCell (hp 3) v3).setCell (hp 4) v4).setCell (hp 5) v5)
theorem Keep.put6 {w w1 : World} {b : Nat} {P : Nat → Prop} (h : Keep P w w1) (hb : w.heap.size ≤ b ∨ P b) (v0 v1 v2 v3 v4 v5 : Value) :
    Keep P w ((((((w1.setCell ⟨b, 0, none⟩ v0).setCell ⟨b, 1, none⟩ v1).setCell ⟨b, 2, none⟩ v2).setCell ⟨b, 3, none⟩ v3).setCell ⟨b, 4, none⟩ v4).setCell ⟨b, 5, none⟩ v5) := by
  have hp : ∀ i : Nat, (⟨b, i, none⟩ : Addr).block < w.heap.size → P b := fun i hi => hb.elim (fun h => absurd hi (Nat.not_lt.2 h)) id
  exact ((((((h.setCell (hp 0) v0).setCell (hp 1) v1).setCell (hp 2) v2).setCell (hp 3) v3).setCell (hp 4) v4).setCell (hp 5) v5)
theorem Blk.all6 {w : World} {b t : Nat} {a0 a1 a2 a3 a4 a5 : Value} (h : Blk w b #[a0, a1, a2, a3, a4, a5] t) : w.cell? ⟨b, 0, none⟩ = some a0 ∧ w.cell? ⟨b, 1, none⟩ = some a1 ∧ w.cell? ⟨b, 2, none⟩ = some a2 ∧ w.cell? ⟨b, 3, none⟩ = some a3 ∧ w.cell? ⟨b, 4, none⟩ = some a4 ∧ w.cell? ⟨b, 5, none⟩ = some a5 ∧ w.frozen? ⟨b, 0, none⟩ = false ∧ w.frozen? ⟨b, 1, none⟩ = false ∧ w.frozen? ⟨b, 2, none⟩ = false ∧ w.frozen? ⟨b, 3, none⟩ = false ∧ w.frozen? ⟨b, 4, none⟩ = false ∧ w.frozen? ⟨b, 5, none⟩ = false :=
  ⟨h.at_ 0 rfl, h.at_ 1 rfl, h.at_ 2 rfl, h.at_ 3 rfl, h.at_ 4 rfl, h.at_ 5 rfl, h.free 0, h.free 1, h.free 2, h.free 3, h.free 4, h.free 5⟩
theorem Blk.put6 {w : World} {b t c : Nat} {cs : Array Value} (h : Blk w c cs t) (hb : c ≠ b) (v0 v1 v2 v3 v4 v5 : Value) :
    Blk ((((((w.setCell ⟨b, 0, none⟩ v0).setCell ⟨b, 1, none⟩ v1).setCell ⟨b, 2, none⟩ v2).setCell ⟨b, 3, none⟩ v3).setCell ⟨b, 4, none⟩ v4).setCell ⟨b, 5, none⟩ v5) c cs t := by
  exact (Blk.far (Blk.far (Blk.far (Blk.far (Blk.far (Blk.far h (p := ⟨b, 0, none⟩) hb v0) (p := ⟨b, 1, none⟩) hb v1) (p := ⟨b, 2, none⟩) hb v2) (p := ⟨b, 3, none⟩) hb v3) (p := ⟨b, 4, none⟩) hb v4) (p := ⟨b, 5, none⟩) hb v5)
theorem Blk.set7 {w : World} {b t : Nat} {a0 a1 a2 a3 a4 a5 a6 : Value} (h : Blk w b #[a0, a1, a2, a3, a4, a5, a6] t) (v0 v1 v2 v3 v4 v5 v6 : Value) :
    Blk (((((((w.setCell ⟨b, 0, none⟩ v0).setCell ⟨b, 1, none⟩ v1).setCell ⟨b, 2, none⟩ v2).setCell ⟨b, 3, none⟩ v3).setCell ⟨b, 4, none⟩ v4).setCell ⟨b, 5, none⟩ v5).setCell ⟨b, 6, none⟩ v6) b #[v0, v1, v2, v3, v4, v5, v6] t := by
  have := (((((((h.set 0 v0).set 1 v1).set 2 v2).set 3 v3).set 4 v4).set 5 v5).set 6 v6)
  simpa using this
theorem Keep.set7 {w w1 : World} {b : Nat} (h : Keep (fun _ => False) w w1) (hb : w.heap.size ≤ b) (v0 v1 v2 v3 v4 v5 v6 : Value) :
    Keep (fun _ => False) w (((((((w1.setCell ⟨b, 0, none⟩ v0).setCell ⟨b, 1, none⟩ v1).setCell ⟨b, 2, none⟩ v2).setCell ⟨b, 3, none⟩ v3).setCell ⟨b, 4, none⟩ v4).setCell ⟨b, 5, none⟩ v5).setCell ⟨b, 6, none⟩ v6) := by
  have hp : ∀ i : Nat, (⟨b, i, none⟩ : Addr).block < w.heap.size → False := fun i hi => absurd hi (Nat.not_lt.2 hb)
  exact (((((((h.setCell (hp 0) v0).setCell (hp 1) v1).setCell (hp 2) v2).setCell (hp 3) v3).setCell (hp 4) v4).setCell (hp 5) v5).setCell (hp 6) v6)
theorem Keep.put7 {w w1 : World} {b : Nat} {P : Nat → Prop} (h : Keep P w w1) (hb : w.heap.size ≤ b ∨ P b) (v0 v1 v2 v3 v4 v5 v6 : Value) :
    Keep P w (((((((w1.setCell ⟨b, 0, none⟩ v0).setCell ⟨b, 1, none⟩ v1).setCell ⟨b, 2, none⟩ v2).setCell ⟨b, 3, none⟩ v3).setCell ⟨b, 4, none⟩ v4).setCell ⟨b, 5, none⟩ v5).setCell ⟨b, 6, none⟩ v6) := by
  have hp : ∀ i : Nat, (⟨b, i, none⟩ : Addr).block < w.heap.size → P b := fun i hi => hb.elim (fun h => absurd hi (Nat.not_lt.2 h)) id
  exact (((((((h.setCell (hp 0) v0).setCell (hp 1) v1).setCell (hp 2) v2).setCell (hp 3) v3).setCell (hp 4) v4).setCell (hp 5) v5).setCell (hp 6) v6)
theorem Blk.all7 {w : World} {b t : Nat} {a0 a1 a2 a3 a4 a5 a6 : Value} (h : Blk w b #[a0, a1, a2, a3, a4, a5, a6] t) : w.cell? ⟨b, 0, none⟩ = some a0 ∧ w.cell? ⟨b, 1, none⟩ = some a1 ∧ w.cell? ⟨b, 2, none⟩ = some a2 ∧ w.cell? ⟨b, 3, none⟩ = some a3 ∧ w.cell? ⟨b, 4, none⟩ = some a4 ∧ w.cell? ⟨b, 5, none⟩ = some a5 ∧ w.cell? ⟨b, 6, none⟩ = some a6 ∧ w.frozen? ⟨b, 0, none⟩ = false ∧ w.frozen? ⟨b, 1, none⟩ = false ∧ w.frozen? ⟨b, 2, none⟩ = false ∧ w.frozen? ⟨b, 3, none⟩ = false ∧ w.frozen? ⟨b, 4, none⟩ = false ∧ w.frozen? ⟨b, 5, none⟩ = false ∧ w.frozen? ⟨b, 6, none⟩ = false :=
  ⟨h.at_ 0 rfl, h.at_ 1 rfl, h.at_ 2 rfl, h.at_ 3 rfl, h.at_ 4 rfl, h.at_ 5 rfl, h.at_ 6 rfl, h.free 0, h.free 1, h.free 2, h.free 3, h.free 4, h.free 5, h.free 6⟩
theorem Blk.put7 {w : World} {b t c : Nat} {cs : Array Value} (h : Blk w c cs t) (hb : c ≠ b) (v0 v1 v2 v3 v4 v5 v6 : Value) :
    Blk (((((((w.setCell ⟨b, 0, none⟩ v0).setCell ⟨b, 1, none⟩ v1).setCell ⟨b, 2, none⟩ v2).setCell ⟨b, 3, none⟩ v3).setCell ⟨b, 4, none⟩ v4).setCell ⟨b, 5, none⟩ v5).setCell ⟨b, 6, none⟩ v6) c cs t := by
  exact (Blk.far (Blk.far (Blk.far (Blk.far (Blk.far (Blk.far (Blk.far h (p := ⟨b, 0, none⟩) hb v0) (p := ⟨b, 1, none⟩) hb v1) (p := ⟨b, 2, none⟩) hb v2) (p := ⟨b, 3, none⟩) hb v3) (p := ⟨b, 4, none⟩) hb v4) (p := ⟨b, 5, none⟩) hb v5) (p := ⟨b, 6, none⟩) hb v6)
theorem Blk.set8 {w : World} {b t : Nat} {a0 a1 a2 a3 a4 a5 a6 a7 : Value} (h : Blk w b #[a0, a1, a2, a3, a4, a5, a6, a7] t) (v0 v1 v2 v3 v4 v5 v6 v7 : Value) :
    Blk ((((((((w.setCell ⟨b, 0, none⟩ v0).setCell ⟨b, 1, none⟩ v1).setCell ⟨b, 2, none⟩ v2).setCell ⟨b, 3, none⟩ v3).setCell ⟨b, 4, none⟩ v4).setCell ⟨b, 5, none⟩ v5).setCell ⟨b, 6, none⟩ v6).setCell ⟨b, 7, none⟩ v7) b #[v0, v1, v2, v3, v4, v5, v6, v7] t := by
  have := ((((((((h.set 0 v0).set 1 v1).set 2 v2).set 3 v3).set 4 v4).set 5 v5).set 6 v6).set 7 v7)
  simpa using this
theorem Keep.set8 {w w1 : World} {b : Nat} (h : Keep (fun _ => False) w w1) (hb : w.heap.size ≤ b) (v0 v1 v2 v3 v4 v5 v6 v7 : Value) :
    Keep (fun _ => False) w ((((((((w1.setCell ⟨b, 0, none⟩ v0).setCell ⟨b, 1, none⟩ v1).setCell ⟨b, 2, none⟩ v2).setCell ⟨b, 3, none⟩ v3).setCell ⟨b, 4, none⟩ v4).setCell ⟨b, 5, none⟩ v5).setCell ⟨b, 6, none⟩ v6).setCell ⟨b, 7, none⟩ v7) := by
  have hp : ∀ i : Nat, (⟨b, i, none⟩ : Addr).block < w.heap.size → False := fun i hi => absurd hi (Nat.not_lt.2 hb)
  exact ((((((((h.setCell (hp 0) v0).setCell (hp 1) v1).setCell (hp 2) v2).setCell (hp 3) v3).setCell (hp 4) v4).setCell (hp 5) v5).setCell (hp 6) v6).setCell (hp 7) v7)
theorem Keep.put8 {w w1 : World} {b : Nat} {P : Nat → Prop} (h : Keep P w w1) (hb : w.heap.size ≤ b ∨ P b) (v0 v1 v2 v3 v4 v5 v6 v7 : Value) :
    Keep P w ((((((((w1.setCell ⟨b, 0, none⟩ v0).setCell ⟨b, 1, none⟩ v1).setCell ⟨b, 2, none⟩ v2).setCell ⟨b, 3, none⟩ v3).setCell ⟨b, 4, none⟩ v4).setCell ⟨b, 5, none⟩ v5).setCell ⟨b, 6, none⟩ v6).setCell ⟨b, 7, none⟩ v7) := by
  have hp : ∀ i : Nat, (⟨b, i, none⟩ : Addr).block < w.heap.size → P b := fun i hi => hb.elim (fun h => absurd hi (Nat.not_lt.2 h)) id
  exact ((((((((h.setCell (hp 0) v0).setCell (hp 1) v1).setCell (hp 2) v2).setCell (hp 3) v3).setCell (hp 4) v4).setCell (hp 5) v5).setCell (hp 6) v6).setCell (hp 7) v7)
theorem Blk.all8 {w : World} {b t : Nat} {a0 a1 a2 a3 a4 a5 a6 a7 : Value} (h : Blk w b #[a0, a1, a2, a3, a4, a5, a6, a7] t) : w.cell? ⟨b, 0, none⟩ = some a0 ∧ w.cell? ⟨b, 1, none⟩ = some a1 ∧ w.cell? ⟨b, 2, none⟩ = some a2 ∧ w.cell? ⟨b, 3, none⟩ = some a3 ∧ w.cell? ⟨b, 4, none⟩ = some a4 ∧ w.cell? ⟨b, 5, none⟩ = some a5 ∧ w.cell? ⟨b, 6, none⟩ = some a6 ∧ w.cell? ⟨b, 7, none⟩ = some a7 ∧ w.frozen? ⟨b, 0, none⟩ = false ∧ w.frozen? ⟨b, 1, none⟩ = false ∧ w.frozen? ⟨b, 2, none⟩ = false ∧ w.frozen? ⟨b, 3, none⟩ = false ∧ w.frozen? ⟨b, 4, none⟩ = false ∧ w.frozen? ⟨b, 5, none⟩ = false ∧ w.frozen? ⟨b, 6, none⟩ = false ∧ w.frozen? ⟨b, 7, none⟩ = false :=
  ⟨h.at_ 0 rfl, h.at_ 1 rfl, h.at_ 2 rfl, h.at_ 3 rfl, h.at_ 4 rfl, h.at_ 5 rfl, h.at_ 6 rfl, h.at_ 7 rfl, h.free 0, h.free 1, h.free 2, h.free 3, h.free 4, h.free 5, h.free 6, h.free 7⟩
theorem Blk.put8 {w : World} {b t c : Nat} {cs : Array Value} (h : Blk w c cs t) (hb : c ≠ b) (v0 v1 v2 v3 v4 v5 v6 v7 : Value) :
    Blk ((((((((w.setCell ⟨b, 0, none⟩ v0).setCell ⟨b, 1, none⟩ v1).setCell ⟨b, 2, none⟩ v2).setCell ⟨b, 3, none⟩ v3).setCell ⟨b, 4, none⟩ v4).setCell ⟨b, 5, none⟩ v5).setCell ⟨b, 6, none⟩ v6).setCell ⟨b, 7, none⟩ v7) c cs t := by
  exact (Blk.far (Blk.far (Blk.far (Blk.far (Blk.far (Blk.far (Blk.far (Blk.far h (p := ⟨b, 0, none⟩) hb v0) (p := ⟨b, 1, none⟩) hb v1) (p := ⟨b, 2, none⟩) hb v2) (p := ⟨b, 3, none⟩) hb v3) (p := ⟨b, 4, none⟩) hb v4) (p := ⟨b, 5, none⟩) hb v5) (p := ⟨b, 6, none⟩) hb v6) (p := ⟨b, 7, none⟩) hb v7)
theorem Blk.set9 {w : World} {b t : Nat} {a0 a1 a2 a3 a4 a5 a6 a7 a8 : Value} (h : Blk w b #[a0, a1, a2, a3, a4, a5, a6, a7, a8] t) (v0 v1 v2 v3 v4 v5 v6 v7 v8 : Value) :
    Blk (((((((((w.setCell ⟨b, 0, none⟩ v0).setCell ⟨b, 1, none⟩ v1).setCell ⟨b, 2, none⟩ v2).setCell ⟨b, 3, none⟩ v3).setCell ⟨b, 4, none⟩ v4).setCell ⟨b, 5, none⟩ v5).setCell ⟨b, 6, none⟩ v6).setCell ⟨b, 7, none⟩ v7).setCell ⟨b, 8, none⟩ v8) b #[v0, v1, v2, v3, v4, v5, v6, v7, v8] t := by
  have := (((((((((h.set 0 v0).set 1 v1).set 2 v2).set 3 v3).set 4 v4).set 5 v5).set 6 v6).set 7 v7).set 8 v8)
  simpa using this
theorem Keep.set9 {w w1 : World} {b : Nat} (h : Keep (fun _ => False) w w1) (hb : w.heap.size ≤ b) (v0 v1 v2 v3 v4 v5 v6 v7 v8 : Value) :
    Keep (fun _ => False) w (((((((((w1.setCell ⟨b, 0, none⟩ v0).setCell ⟨b, 1, none⟩ v1).setCell ⟨b, 2, none⟩ v2).setCell ⟨b, 3, none⟩ v3).setCell ⟨b, 4, none⟩ v4).setCell ⟨b, 5, none⟩ v5).setCell ⟨b, 6, none⟩ v6).setCell ⟨b, 7, none⟩ v7).setCell ⟨b, 8, none⟩ v8) := by
  have hp : ∀ i : Nat, (⟨b, i, none⟩ : Addr).block < w.heap.size → False := fun i hi => absurd hi (Nat.not_lt.2 hb)
  exact (((((((((h.setCell (hp 0) v0).setCell (hp 1) v1).setCell (hp 2) v2).setCell (hp 3) v3).setCell (hp 4) v4).setCell (hp 5) v5).setCell (hp 6) v6).setCell (hp 7) v7).setCell (hp 8) v8)
theorem Keep.put9 {w w1 : World} {b : Nat} {P : Nat → Prop} (h : Keep P w w1) (hb : w.heap.size ≤ b ∨ P b) (v0 v1 v2 v3 v4 v5 v6 v7 v8 : Value) :
    Keep P w (((((((((w1.setCell ⟨b, 0, none⟩ v0).setCell ⟨b, 1, none⟩ v1).setCell ⟨b, 2, none⟩ v2).setCell ⟨b, 3, none⟩ v3).setCell ⟨b, 4, none⟩ v4).setCell ⟨b, 5, none⟩ v5).setCell ⟨b, 6, none⟩ v6).setCell ⟨b, 7, none⟩ v7).setCell ⟨b, 8, none⟩ v8) := by
  have hp : ∀ i : Nat, (⟨b, i, none⟩ : Addr).block < w.heap.size → P b := fun i hi => hb.elim (fun h => absurd hi (Nat.not_lt.2 h)) id
  exact (((((((((h.setCell (hp 0) v0).setCell (hp 1) v1).setCell (hp 2) v2).setCell (hp 3) v3).setCell (hp 4) v4).setCell (hp 5) v5).setCell (hp 6) v6).setCell (hp 7) v7).setCell (hp 8) v8)
theorem Blk.all9 {w : World} {b t : Nat} {a0 a1 a2 a3 a4 a5 a6 a7 a8 : Value} (h : Blk w b #[a0, a1, a2, a3, a4, a5, a6, a7, a8] t) : w.cell? ⟨b, 0, none⟩ = some a0 ∧ w.cell? ⟨b, 1, none⟩ = some a1 ∧ w.cell? ⟨b, 2, none⟩ = some a2 ∧ w.cell? ⟨b, 3, none⟩ = some a3 ∧ w.cell? ⟨b, 4, none⟩ = some a4 ∧ w.cell? ⟨b, 5, none⟩ = some a5 ∧ w.cell? ⟨b, 6, none⟩ = some a6 ∧ w.cell? ⟨b, 7, none⟩ = some a7 ∧ w.cell? ⟨b, 8, none⟩ = some a8 ∧ w.frozen? ⟨b, 0, none⟩ = false ∧ w.frozen? ⟨b, 1, none⟩ = false ∧ w.frozen? ⟨b, 2, none⟩ = false ∧ w.frozen? ⟨b, 3, none⟩ = false ∧ w.frozen? ⟨b, 4, none⟩ = false ∧ w.frozen? ⟨b, 5, none⟩ = false ∧ w.frozen? ⟨b, 6, none⟩ = false ∧ w.frozen? ⟨b, 7, none⟩ = false ∧ w.frozen? ⟨b, 8, none⟩ = false :=
  ⟨h.at_ 0 rfl, h.at_ 1 rfl, h.at_ 2 rfl, h.at_ 3 rfl, h.at_ 4 rfl, h.at_ 5 rfl, h.at_ 6 rfl, h.at_ 7 rfl, h.at_ 8 rfl, h.free 0, h.free 1, h.free 2, h.free 3, h.free 4, h.free 5, h.free 6, h.free 7, h.free 8⟩
theorem Blk.put9 {w : World} {b t c : Nat} {cs : Array Value} (h : Blk w c cs t) (hb : c ≠ b) (v0 v1 v2 v3 v4 v5 v6 v7 v8 : Value) :
    Blk (((((((((w.setCell ⟨b, 0, none⟩ v0).setCell ⟨b, 1, none⟩ v1).setCell ⟨b, 2, none⟩ v2).setCell ⟨b, 3, none⟩ v3).setCell ⟨b, 4, none⟩ v4).setCell ⟨b, 5, none⟩ v5).setCell ⟨b, 6, none⟩ v6).setCell ⟨b, 7, none⟩ v7).setCell ⟨b, 8, none⟩ v8) c cs t := by
  exact (Blk.far (Blk.far (Blk.far (Blk.far (Blk.far (Blk.far (Blk.far (Blk.far (Blk.far h (p := ⟨b, 0, none⟩) hb v0) (p := ⟨b, 1, none⟩) hb v1) (p := ⟨b, 2, none⟩) hb v2) (p := ⟨b, 3, none⟩) hb v3) (p := ⟨b, 4, none⟩) hb v4) (p := ⟨b, 5, none⟩) hb v5) (p := ⟨b, 6, none⟩) hb v6) (p := ⟨b, 7, none⟩) hb v7) (p := ⟨b, 8, none⟩) hb v8)
end Go.Proofs.YtgmmjhelcpgakaaGreatDoor
