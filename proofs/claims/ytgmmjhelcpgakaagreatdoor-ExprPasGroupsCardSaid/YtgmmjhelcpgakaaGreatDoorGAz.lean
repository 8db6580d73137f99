/- The reference of expressions: Read. -/
import Derived.Test.YtgmmjhelcpgakaaGreatDoorGO
import Derived.Test.YtgmmjhelcpgakaaGreatDoorGAy
import Derived.Test.YtgmmjhelcpgakaaGreatDoorGAm
import Derived.Deep.RegionWith
namespace Go.Proofs.YtgmmjhelcpgakaaGreatDoor
open Go.RowKit
set_option linter.unusedVariables false
set_option linter.unusedSimpArgs false

theorem tokF0 (a b c d e f g : Value) (w : World) : (Instr.field 50 (.agg #[a, b, c, d, e, f, g]) 0).run Tryz.prog w = .ok a w := by kernel_rfl
set_option maxRecDepth 100000 in
set_option maxHeartbeats 8000000 in
theorem refread_any (s : ByteArray) (w : World) (hs : s.size ≤ 140737488351232) :
    Calls Tryz.prog 11 #[.int .i64 0, .string s] w (RdPost (readE s) w) := by
  have hu := Tryz.underlying25
  have hu26 := Tryz.underlying28
  have hu28 := Tryz.underlying30
  have hu38 := Tryz.underlying50
  have hu63 := Tryz.underlying63
  have fd0 := tokF0
  have HA : Hid (∀ W, Keep (fun _ => False) w W → Calls Tryz.prog 17 #[.int .i64 0, .string s] W (RefAllPost W (lexAll s))) := fun W hk => refAll_any s W hs
  have HOKL := Lib.hid (lexAll_ok s)
  have HSM := Lib.hid (lexAll_small s)
  have HQ0 : Hid (readE s = if (lexAll s).code ≠ 0 then (exNil, (lexAll s).code, (lexAll s).pos) else match parseAt (lexAll s).toks 0 with
      | .bad c p => (exNil, c, p)
      | .ok e j => if (tk (lexAll s).toks j).kind ≠ 0 then (exNil, wrC (lexAll s).toks j, (tk (lexAll s).toks j).pos) else (e, 0, (0, 0, 0))) := rfl
  obtain ⟨q, hq⟩ : ∃ q, q = readE s := ⟨_, rfl⟩
  have hq0 := HQ0.out
  rw [← hq] at hq0 ⊢
  obtain ⟨R, hR⟩ : ∃ R, R = lexAll s := ⟨_, rfl⟩
  rw [← hR] at HA HOKL HSM hq0
  obtain ⟨toks, code, pos⟩ := R
  simp only [diagV] at HA HOKL HSM hq0
  have HQ0 := Lib.hid hq0
  clear hq hR hq0
  go_enter Tryz.func11, Tryz.ntmps11
  go_upto_region 1 with fail
  obtain ⟨W0, hWW0⟩ : ∃ W0, W0 = w.alloc (.cells #[.int .i64 0, .int .i64 0, .string ⟨#[]⟩, .string ⟨#[]⟩, .slice none 0 0] 25) := ⟨_, rfl⟩
  rw [← hWW0]
  have HBW0 := Lib.hid (show Blk W0 w.heap.size #[.int .i64 0, .int .i64 0, .string ⟨#[]⟩, .string ⟨#[]⟩, .slice none 0 0] 25 by rw [hWW0]; exact Blk.new _ _ _)
  have HAW0 := Lib.hid (show Keep (fun _ => False) w W0 by rw [hWW0]; exact (Keep.refl _ _).alloc _)
  have HZW0 := Lib.hid (show W0.heap.size = w.heap.size + 1 by rw [hWW0]; simp)
  clear hWW0
  obtain ⟨W1, hWW1⟩ : ∃ W1, W1 = W0.alloc (.cells #[.int .i64 0, .int .i64 0, .int .i64 0, .int .i64 0] 30) := ⟨_, rfl⟩
  rw [← hWW1]
  have HBW1 := Lib.hid (show Blk W1 W0.heap.size #[.int .i64 0, .int .i64 0, .int .i64 0, .int .i64 0] 30 by rw [hWW1]; exact Blk.new _ _ _)
  have HAW1 := Lib.hid (show Keep (fun _ => False) W0 W1 by rw [hWW1]; exact (Keep.refl _ _).alloc _)
  have HZW1 := Lib.hid (show W1.heap.size = W0.heap.size + 1 by rw [hWW1]; simp)
  clear hWW1
  have hbw1 := HBW1.out
  rw [HZW0.out] at hbw1
  obtain ⟨bX, hbX⟩ : ∃ bX, bX = w.heap.size + 1 := ⟨_, rfl⟩
  have hRX : w.heap.size < bX := by rw [hbX]; omega
  have hRX2 : bX < w.heap.size + 2 := by rw [hbX]; omega
  rw [← hbX] at hbw1 ⊢
  clear HBW1
  have HBd1 := Lib.hid hbw1
  have hs1 : bX < W1.heap.size := by rw [HZW1.out, HZW0.out]; omega
  clear hbw1 hbX
  have hxr : w.heap.size ≠ bX := by omega
  have HK1 := Lib.hid (HAW0.out.trans HAW1.out)
  have HBe1 := Lib.hid (HAW1.out.blk HBW0.out (fun h => h))
  clear HBW0 HZW0 HZW1
  go_wp2_with fail
  refine (HA.out W1 HK1.out).mono ?_
  rintro en w2 ⟨v, rfl, ho, hk2⟩
  obtain ⟨A1, c1, rfl⟩ := ho.form
  dsimp only [diagV] at ho ⊢
  have HO2 := Lib.hid ho
  have HK2 := Lib.hid (HK1.out.trans hk2)
  have HBe2 := Lib.hid (hk2.blk HBe1.out (fun h => h))
  have HBd2 := Lib.hid (hk2.blk HBd1.out (fun h => h))
  have hs2 : W1.heap.size ≤ w2.heap.size := hk2.size
  clear hk2 ho HA
  go_upto_region 2 with fail
  obtain ⟨W3, hWW3⟩ : ∃ W3, W3 = w2.alloc (.cells #[.int .i64 code, .int .i64 pos.1, .int .i64 pos.2.1, .int .i64 pos.2.2] 30) := ⟨_, rfl⟩
  rw [← hWW3]
  have HBW3 := Lib.hid (show Blk W3 w2.heap.size #[.int .i64 code, .int .i64 pos.1, .int .i64 pos.2.1, .int .i64 pos.2.2] 30 by rw [hWW3]; exact Blk.new _ _ _)
  have HAW3 := Lib.hid (show Keep (fun _ => False) w2 W3 by rw [hWW3]; exact (Keep.refl _ _).alloc _)
  have HZW3 := Lib.hid (show W3.heap.size = w2.heap.size + 1 by rw [hWW3]; simp)
  clear hWW3
  obtain ⟨bD, hbD⟩ : ∃ bD, bD = w2.heap.size := ⟨_, rfl⟩
  have hXD : bX < bD := by omega
  have hD2 : w2.heap.size ≤ bD := by omega
  have hD3 : bD ≤ w2.heap.size := by omega
  have hs3 : bD < W3.heap.size := by rw [HZW3.out]; omega
  rw [← hbD] at HBW3 ⊢
  have HK3 := Lib.hid (HK2.out.trans HAW3.out)
  have HBe3 := Lib.hid (HAW3.out.blk HBe2.out (fun h => h))
  have HBd3 := Lib.hid (HAW3.out.blk HBd2.out (fun h => h))
  have d4 := HBW3.out.all4
  clear hbD
  by_cases h0 : code = 0
  · have t0 : ((code : Int) != 0) = false := by rw [h0]; rfl
    have hpos : 0 < toks.length := (HOKL.out h0).1
    have hsm : toks.length ≤ 65537 := HSM.out h0
    obtain ⟨g, c1', hv, hg1, hg2⟩ := HO2.out.shape hpos
    obtain ⟨rfl, rfl⟩ : A1 = some ⟨g, 0, none⟩ ∧ c1 = c1' := by injection hv with h1 _ h2; exact ⟨h1, h2⟩
    have HTK := Lib.hid (show Tks w2 g toks from ⟨TokR.of_own HO2.out, hpos, by omega⟩)
    have hq := HQ0.out
    rw [if_neg (by simpa using h0)] at hq
    have HP0 := refparse_any toks g c1 0 W3 (HTK.out.keep HAW3.out) (by omega) (Nat.zero_le _)
    rw [show ((0 : Nat) : Int) = 0 from rfl] at HP0
    have HPS := Lib.hid (fun e j (h : parseAt toks 0 = .ok e j) => (parse_small (Nat.zero_le _) h).2)
    have HPB := Lib.hid (fun c p (h : parseAt toks 0 = .bad c p) => parse_bad (Nat.zero_le _) h)
    have HTOK : Hid (∀ (j : Nat) W, j ≤ 1000000 → Keep (fun _ => False) w2 W → Calls Tryz.prog 24 #[.slice (some ⟨g, 0, none⟩) toks.length c1, .int .i64 j] W fun e w' => e = .returned (.agg (tokA (tk toks j))) ∧ Keep (fun _ => False) W w') := fun j W hj hk => refTok_any g c1 toks j (by omega) W (HTK.out.keep hk)
    have HWRO : Hid (∀ (j : Nat) W, j ≤ 1000000 → Keep (fun _ => False) w2 W → Calls Tryz.prog 25 #[.slice (some ⟨g, 0, none⟩) toks.length c1, .int .i64 j] W fun e w' => e = .returned (.agg (diagA (wrC toks j) (tk toks j).pos)) ∧ Keep (fun _ => False) W w') := fun j W hj hk => refWrong_any g c1 toks j (by omega) W (HTK.out.keep hk)
    obtain ⟨r, hr⟩ : ∃ r, r = parseAt toks 0 := ⟨_, rfl⟩
    rw [← hr] at hq HP0 HPS HPB
    have HQ := Lib.hid hq
    have HP := Lib.hid HP0
    clear hv hr hq HP0 HQ0 h0 HOKL HSM hpos hg1 hg2 HTK
    go_wp2_with fail
    refine HP.out.mono ?_
    rintro en w4 ⟨A2, cc2, rfl, hrow, hk4⟩
    have HROW4 := Lib.hid (hrow.mono (S' := fun k => W3.heap.size ≤ k ∧ k < w4.heap.size) fun k h1 h2 => ⟨h2, h1⟩)
    have HK4 := Lib.hid (HK3.out.trans hk4)
    have HKT := Lib.hid (HAW3.out.trans hk4)
    have HBe4 := Lib.hid (hk4.blk HBe3.out (fun h => h))
    have HBd4 := Lib.hid (hk4.blk HBd3.out (fun h => h))
    have hs4 : W3.heap.size ≤ w4.heap.size := hk4.size
    clear d4 hrow hk4 HP HBe3 HBd3 HBW3
    unfold gotA
    go_upto_region 5 with fail
    obtain ⟨W5, hWW5⟩ : ∃ W5, W5 = w4.alloc (.cells #[.int .i64 (resE r).op, .int .i64 (resE r).num, .string (resE r).name, .string (resE r).field, .slice A2 (resE r).list.length cc2, .int .i64 (resI 0 r : Nat), .int .i64 (resC r : Nat), .int .i64 (resP r).1, .int .i64 (resP r).2.1, .int .i64 (resP r).2.2] 63) := ⟨_, rfl⟩
    rw [← hWW5]
    have HBW5 := Lib.hid (show Blk W5 w4.heap.size #[.int .i64 (resE r).op, .int .i64 (resE r).num, .string (resE r).name, .string (resE r).field, .slice A2 (resE r).list.length cc2, .int .i64 (resI 0 r : Nat), .int .i64 (resC r : Nat), .int .i64 (resP r).1, .int .i64 (resP r).2.1, .int .i64 (resP r).2.2] 63 by rw [hWW5]; exact Blk.new _ _ _)
    have HAW5 := Lib.hid (show Keep (fun _ => False) w4 W5 by rw [hWW5]; exact (Keep.refl _ _).alloc _)
    have HZW5 := Lib.hid (show W5.heap.size = w4.heap.size + 1 by rw [hWW5]; simp)
    clear hWW5
    obtain ⟨bG, hbG⟩ : ∃ bG, bG = w4.heap.size := ⟨_, rfl⟩
    have hDG : bX < bG := by omega
    have hG2 : bG ≤ w4.heap.size := by omega
    have hG3 : w4.heap.size ≤ bG := by omega
    rw [← hbG] at HBW5 ⊢
    have HK5 := Lib.hid (HK4.out.trans HAW5.out)
    have HKT5 := Lib.hid (HKT.out.trans HAW5.out)
    have HBe5 := Lib.hid (HAW5.out.blk HBe4.out (fun h => h))
    have HBd5 := Lib.hid (HAW5.out.blk HBd4.out (fun h => h))
    have HROW5 := Lib.hid (HROW4.out.keepF HAW5.out)
    have hgx : bG < W5.heap.size := by rw [HZW5.out]; omega
    have hneG : w.heap.size ≠ bG := by omega
    have hneX : bX ≠ bG := by omega
    clear hbG HROW4 HBe4 HBd4 HK4 HKT
    cases r with
    | bad cb pb =>
      have hcb := HPB.out cb pb rfl
      have tcb : ((cb : Int) != 0) = true := by rw [bne_iff_ne]; omega
      have hbw := HBW5.out
      simp only [resE, resC, resP, resI] at hbw ⊢
      have g10 := hbw.all10
      have e5 := HBe5.out.all5
      have f4 := HBd5.out.all4
      have hltE := HBe5.out.lt
      have hltX := HBd5.out.lt
      have HQ : Hid (q = (exNil, cb, pb)) := HQ.out
      clear hcb hbw
      go_wp2_with fail
      go_region
      all_goals
        go_wp2_with fail
        refine bodyPost_ret (v := .tuple #[.agg (exA (exNil) none 0), .agg (diagA (cb) (pb))]) (by simp [exA, exNil, diagA, Ex.op, Ex.num, Ex.name, Ex.field, Ex.list, results, Tryz.results11, go_sem, e5, f4, hxr, Ne.symm hxr]) rfl ?_
        rw [HQ.out]
        refine ⟨none, 0, rfl, ?_, ?_⟩
        · exact RdRow.nil _ _ _
        · exact (Keep.put4 (Keep.put5 (HK5.out) (.inl (Nat.le_refl _)) _ _ _ _ _) (.inl (by omega)) _ _ _ _).drew
    | ok e j =>
      have hj := HPS.out e j rfl
      have hbw := HBW5.out
      simp only [resE, resC, resP, resI] at hbw HROW5 ⊢
      have HBW5 := Lib.hid hbw
      have g10 := hbw.all10
      have HQ1 : Hid (q = if (tk toks j).kind ≠ 0 then (exNil, wrC toks j, (tk toks j).pos) else (e, 0, (0, 0, 0))) := HQ.out
      have HTJ0 := HTOK.out j W5 (by omega) HKT5.out
      have HWJ : Hid (∀ W, Keep (fun _ => False) W5 W → Calls Tryz.prog 25 #[.slice (some ⟨g, 0, none⟩) toks.length c1, .int .i64 j] W fun e w' => e = .returned (.agg (diagA (wrC toks j) (tk toks j).pos)) ∧ Keep (fun _ => False) W w') := fun W hk => HWRO.out j W (by omega) (HKT5.out.trans hk)
      obtain ⟨t, ht⟩ : ∃ t, t = tk toks j := ⟨_, rfl⟩
      obtain ⟨wc, hwc⟩ : ∃ wc, wc = wrC toks j := ⟨_, rfl⟩
      have HQ := HQ1.out
      rw [← ht, ← hwc] at HQ HWJ
      rw [← ht] at HTJ0
      unfold tokA at HTJ0
      unfold diagA at HWJ
      have HTJ := Lib.hid HTJ0
      have HQ1 := Lib.hid HQ
      clear HQ hbw HTJ0 ht hwc HTOK HWRO
      by_cases hk0 : t.kind = 0
      · have tk0 : ((t.kind : Int) != 0) = false := by rw [hk0]; rfl
        have hq := HQ1.out
        rw [if_neg (by simpa using hk0)] at hq
        have HQ := Lib.hid hq
        clear hq HQ1 hk0
        go_wp2_with fail
        refine HTJ.out.mono ?_
        rintro en w7 ⟨rfl, hk7⟩
        have HBe7 := Lib.hid (hk7.blk HBe5.out (fun h => h))
        have HBd7 := Lib.hid (hk7.blk HBd5.out (fun h => h))
        have HBW7 := Lib.hid (hk7.blk HBW5.out (fun h => h))
        have HROW7 := Lib.hid (HROW5.out.keepF hk7)
        have HK7 := Lib.hid (HK5.out.trans hk7)
        clear hk7 HTJ g10
        have e5 := HBe7.out.all5
        have f4 := HBd7.out.all4
        have g10 := HBW7.out.all10
        have hltE := HBe7.out.lt
        have hltX := HBd7.out.lt
        have hltG := HBW7.out.lt
        go_wp2_with fail
        refine bodyPost_ret (v := .tuple #[.agg (exA (e) A2 cc2), .agg (diagA (0) ((0, 0, 0)))]) (by simp [exA, exNil, diagA, Ex.op, Ex.num, Ex.name, Ex.field, Ex.list, results, Tryz.results11, go_sem, e5, f4, g10, hltE, hltX, hltG, hxr, Ne.symm hxr]) rfl ?_
        rw [HQ.out]
        refine ⟨A2, cc2, rfl, ?_, ?_⟩
        · exact (((HROW7.out).keep (P := (· = w.heap.size)) (Keep.put5 (P := (· = w.heap.size)) (b := w.heap.size) (Keep.refl _ _) (.inr rfl) _ _ _ _ _) (fun k h1 h2 => by have := h2.1; omega)).keep (P := (· = bX)) (Keep.put4 (P := (· = bX)) (b := bX) (Keep.refl _ _) (.inr rfl) _ _ _ _) (fun k h1 h2 => by have := h2.1; omega)).mono (fun k _ h => by have := h.1; show w.heap.size ≤ k; omega)
        · exact (Keep.put4 (Keep.put5 (HK7.out) (.inl (Nat.le_refl _)) _ _ _ _ _) (.inl (by omega)) _ _ _ _)
      · have tk0 : ((t.kind : Int) != 0) = true := by rw [bne_iff_ne]; omega
        have hq := HQ1.out
        rw [if_pos (by simpa using hk0)] at hq
        have HQ := Lib.hid hq
        clear hq HQ1 hk0
        go_wp2_with fail
        refine HTJ.out.mono ?_
        rintro en w7 ⟨rfl, hk7⟩
        have HBe7 := Lib.hid (hk7.blk HBe5.out (fun h => h))
        have HBd7 := Lib.hid (hk7.blk HBd5.out (fun h => h))
        have HBW7 := Lib.hid (hk7.blk HBW5.out (fun h => h))
        have HK7 := Lib.hid (HK5.out.trans hk7)
        have HWJ7 := Lib.hid (HWJ.out w7 hk7)
        clear hk7 HTJ g10 HWJ
        have g10 := HBW7.out.all10
        have hltG := HBW7.out.lt
        go_wp2_with fail
        refine HWJ7.out.mono ?_
        rintro en w9 ⟨rfl, hk9⟩
        have HBe9 := Lib.hid (hk9.blk HBe7.out (fun h => h))
        have HBd9 := Lib.hid (hk9.blk HBd7.out (fun h => h))
        have HK9 := Lib.hid (HK7.out.trans hk9)
        clear hk9 g10 hltG
        have e5 := HBe9.out.all5
        have f4 := HBd9.out.all4
        have hltE := HBe9.out.lt
        have hltX := HBd9.out.lt
        go_wp2_with fail
        refine bodyPost_ret (v := .tuple #[.agg (exA (exNil) none 0), .agg (diagA (wc) (t.pos))]) (by simp [exA, exNil, diagA, Ex.op, Ex.num, Ex.name, Ex.field, Ex.list, results, Tryz.results11, go_sem, e5, f4, hxr, Ne.symm hxr]) rfl ?_
        rw [HQ.out]
        refine ⟨none, 0, rfl, ?_, ?_⟩
        · exact RdRow.nil _ _ _
        · exact (Keep.put4 (Keep.put5 (HK9.out) (.inl (Nat.le_refl _)) _ _ _ _ _) (.inl (by omega)) _ _ _ _)
  · have t0 : ((code : Int) != 0) = true := by rw [bne_iff_ne]; omega
    have hq := HQ0.out
    rw [if_pos h0] at hq
    have HQ := Lib.hid hq
    have e5 := HBe3.out.all5
    have f4 := HBd3.out.all4
    have hltE := HBe3.out.lt
    have hltX := HBd3.out.lt
    clear hq HQ0 h0
    go_wp2_with fail
    go_region
    all_goals
      go_wp2_with fail
      refine bodyPost_ret (v := .tuple #[.agg (exA (exNil) none 0), .agg (diagA (code) (pos))]) (by simp [exA, exNil, diagA, Ex.op, Ex.num, Ex.name, Ex.field, Ex.list, results, Tryz.results11, go_sem, e5, f4, hxr, Ne.symm hxr]) rfl ?_
      rw [HQ.out]
      refine ⟨none, 0, rfl, ?_, ?_⟩
      · exact RdRow.nil _ _ _
      · exact (Keep.put4 (Keep.put5 (HK3.out) (.inl (Nat.le_refl _)) _ _ _ _ _) (.inl (by omega)) _ _ _ _).drew
end Go.Proofs.YtgmmjhelcpgakaaGreatDoor
/- The reference of expressions: SameExpr, SameExprs. -/
namespace Go.Proofs.YtgmmjhelcpgakaaGreatDoor
open Go.RowKit
set_option linter.unusedVariables false
set_option linter.unusedSimpArgs false

def SPost (r : Bool) (w : World) (en : Ending) (w' : World) : Prop := en = .returned (.bool r) ∧ Keep (fun _ => False) w w'
def Sames (x y : Ex) : Prop := ∀ (A A' : Option Addr) (c c' : Nat) (S S' : Nat → Prop) (w : World), RdRow S w x.list A → RdRow S' w y.list A' →
    Calls Tryz.prog 12 #[.agg (exA x A c), .agg (exA y A' c')] w (SPost (sameEx x y) w)
theorem sameExs_take (l m : List Ex) (k : Nat) (x y : Ex) (hx : l[k]? = some x) (hy : m[k]? = some y) (h : sameExs (l.take k) (m.take k) = true) (hs : sameEx x y = true) : sameExs (l.take (k + 1)) (m.take (k + 1)) = true := by
  rw [sameExs_iff] at h ⊢
  rw [sameEx_iff] at hs
  have h1 := (List.getElem?_eq_some_iff.1 hx)
  have h2 := (List.getElem?_eq_some_iff.1 hy)
  obtain ⟨a, b⟩ := h1
  obtain ⟨c, d⟩ := h2
  rw [List.take_succ_eq_append_getElem a, List.take_succ_eq_append_getElem c, h, b, d, hs]
theorem sameExs_no (l m : List Ex) (k : Nat) (x y : Ex) (hx : l[k]? = some x) (hy : m[k]? = some y) (hs : sameEx x y = false) : sameExs l m = false := by
  cases h : sameExs l m with
  | false => rfl
  | true =>
    rw [sameExs_iff] at h
    subst h
    rw [hx] at hy; injection hy with hy; subst hy
    rw [sameEx_refl] at hs; cases hs
set_option maxRecDepth 100000 in
set_option maxHeartbeats 8000000 in
theorem sames_any (l m : List Ex) (hl : l.length ≤ 2305843009213693951) (ih : ∀ x ∈ l, ∀ y, Sames x y) (A A' : Option Addr) (c c' : Nat) (S S' : Nat → Prop) (w : World) (hr : RdRow S w l A) (hr' : RdRow S' w m A') :
    Calls Tryz.prog 26 #[.slice A l.length c, .slice A' m.length c'] w (SPost (sameExs l m) w) := by
  have hu := Tryz.underlying25
  have HR := Lib.hid hr; have HR' := Lib.hid hr'; have HIH := Lib.hid ih
  have HQ : Hid (∀ l' m', l' = l → m' = m → sameExs l m = sameExs l' m') := fun _ _ h1 h2 => by rw [h1, h2]
  obtain ⟨q, hq⟩ : ∃ q, q = sameExs l m := ⟨_, rfl⟩
  rw [← hq]
  have HQ := Lib.hid hq
  clear hr hr' ih hq
  by_cases hlen : l.length = m.length
  · have HL := Lib.hid hlen
    obtain ⟨n, hn⟩ : ∃ n, n = l.length := ⟨_, rfl⟩
    rw [← hlen, ← hn]
    rw [← hn] at hl
    have HN := Lib.hid hn
    clear hlen hn
    go_enter Tryz.func26, Tryz.ntmps26
    go_wp2_with fail
    go_loopw [5] (fun i wr => ∃ k : Nat, k ≤ n ∧ i = .int .i64 k ∧ Keep (fun _ => False) w wr ∧ Hid (sameExs (l.take k) (m.take k) = true)) (fun i _ => n - (intOf i).toNat)
    case atStart => exact ⟨0, Nat.zero_le _, rfl, Keep.refl _ _, Lib.hid (by rw [List.take_zero, List.take_zero, sameExs])⟩
    case round =>
      obtain ⟨k, hk, rfl, hkp, HG⟩ := hrel
      have HKP := Lib.hid hkp; clear hkp
      by_cases hlt : k < n
      · have hk1 : k < l.length := by rw [← HN.out]; exact hlt
        have hk2 : k < m.length := by rw [← HL.out]; exact hk1
        obtain ⟨x1, hx1⟩ : ∃ y, l[k]? = some y := ⟨_, List.getElem?_eq_getElem hk1⟩
        obtain ⟨b1, off1, rfl, _, hcs1⟩ := (HR.out.keepF HKP.out) (by intro h; have hk := hk1; rw [h] at hk; simp at hk)
        obtain ⟨A1, c1, hr1, hc1⟩ := hcs1.at_ k x1 hx1
        have p10 := hc1 0 (by decide)
        have p11 := hc1 1 (by decide)
        have p12 := hc1 2 (by decide)
        have p13 := hc1 3 (by decide)
        have p14 := hc1 4 (by decide)
        have hb1 : b1 < wr.heap.size := hcs1.lt (by intro h; have hk := hk1; rw [h] at hk; simp at hk)
        simp only [exA, List.getElem?_toArray, List.getElem?_cons_succ, List.getElem?_cons_zero, Nat.add_zero] at p10 p11 p12 p13 p14
        have HX1 := Lib.hid hx1; have HRW1 := Lib.hid hr1
        clear hc1 hcs1 hr1 hx1
        obtain ⟨x2, hx2⟩ : ∃ y, m[k]? = some y := ⟨_, List.getElem?_eq_getElem hk2⟩
        obtain ⟨b2, off2, rfl, _, hcs2⟩ := (HR'.out.keepF HKP.out) (by intro h; have hk := hk2; rw [h] at hk; simp at hk)
        obtain ⟨A2, c2, hr2, hc2⟩ := hcs2.at_ k x2 hx2
        have p20 := hc2 0 (by decide)
        have p21 := hc2 1 (by decide)
        have p22 := hc2 2 (by decide)
        have p23 := hc2 3 (by decide)
        have p24 := hc2 4 (by decide)
        have hb2 : b2 < wr.heap.size := hcs2.lt (by intro h; have hk := hk2; rw [h] at hk; simp at hk)
        simp only [exA, List.getElem?_toArray, List.getElem?_cons_succ, List.getElem?_cons_zero, Nat.add_zero] at p20 p21 p22 p23 p24
        have HX2 := Lib.hid hx2; have HRW2 := Lib.hid hr2
        clear hc2 hcs2 hr2 hx2
        have hi0 : (0 : Int) ≤ (k : Int) := by omega
        have hi1 : (k : Int) < (n : Int) := by omega
        have HC : Hid (∀ W, Keep (fun _ => False) wr W → Calls Tryz.prog 12 #[.agg (exA x1 A1 c1), .agg (exA x2 A2 c2)] W (SPost (sameEx x1 x2) W)) := fun W hk => HIH.out x1 (List.mem_of_getElem? HX1.out) x2 A1 A2 c1 c2 S S' W (HRW1.out.keepF hk) (HRW2.out.keepF hk)
        obtain ⟨v, hv⟩ : ∃ v, v = sameEx x1 x2 := ⟨_, rfl⟩
        rw [← hv] at HC
        have HV := Lib.hid hv
        unfold exA at HC
        clear hk1 hk2 hv
        go_wp2_with fail
        go_region_with (go_at_call 12; refine (HC.out _ (by first | exact Keep.refl _ _ | exact (Keep.refl _ _).drew)).mono ?_; rintro en w1 ⟨rfl, hk1⟩; have HK1 := Lib.hid hk1; clear hk1)
        all_goals
          cases v with
          | true =>
            go_wp2_with fail
            exact ⟨⟨k + 1, by omega, by go_num, HKP.out.trans (((Keep.refl _ _).drew).trans HK1.out), Lib.hid (sameExs_take l m k x1 x2 HX1.out HX2.out HG.out HV.out.symm)⟩, by simp [intOf]; omega⟩
          | false =>
            have hq2 : q = false := by rw [HQ.out]; exact sameExs_no l m k x1 x2 HX1.out HX2.out HV.out.symm
            subst hq2
            go_wp2_with fail
            go_ret
            exact ⟨rfl, HKP.out.trans (((Keep.refl _ _).drew).trans HK1.out)⟩
      · obtain rfl : k = n := by omega
        have hq2 : q = true := by
          rw [HQ.out]
          have h := HG.out
          rw [HN.out, List.take_length, HL.out, List.take_length] at h
          exact h
        subst hq2
        go_wp2_with fail
        go_ret
        exact ⟨rfl, HKP.out⟩
  · have hq2 : q = false := by
      rw [HQ.out]
      cases h : sameExs l m with
      | false => rfl
      | true => exact absurd (sameExs_len _ _ h) hlen
    subst hq2
    have t0 : ((l.length : Int) != (m.length : Int)) = true := by rw [bne_iff_ne]; omega
    go_enter Tryz.func26, Tryz.ntmps26
    go_wp2_with fail
    go_ret
    exact ⟨rfl, Keep.refl _ _⟩
theorem sizeOf_mem {x : Ex} {a : Ex} (h : x ∈ a.list) : SizeOf.sizeOf x < SizeOf.sizeOf a := by
  cases a with
  | mk o n s f l =>
    have h1 := List.sizeOf_lt_of_mem (show x ∈ l from h)
    simp only [Ex.mk.sizeOf_spec]; omega
theorem sameEx_parts (a b : Ex) : sameEx a b = (decide (a.op = b.op) && (decide (a.num = b.num) && (decide (a.name = b.name) && (decide (a.field = b.field) && sameExs a.list b.list)))) := by
  cases a; cases b; rw [sameEx]; rfl
theorem longE_mem {x a : Ex} (h : x ∈ a.list) : longE x ≤ longE a := by
  cases a with
  | mk o n s f l =>
    rw [longE]
    have : ∀ (l : List Ex), x ∈ l → longE x ≤ longEs l := by
      intro l
      induction l with
      | nil => intro h; cases h
      | cons a l ih =>
        intro h
        rw [longEs]
        rcases List.mem_cons.1 h with rfl | h
        · omega
        · have := ih h; omega
    have := this l h
    omega
set_option maxRecDepth 100000 in
set_option maxHeartbeats 8000000 in
theorem same_any (n : Nat) : ∀ (a : Ex), SizeOf.sizeOf a ≤ n → longE a ≤ 2305843009213693951 → ∀ b, Sames a b := by
  have hu := Tryz.underlying25
  induction n with
  | zero => intro a h; cases a; simp only [Ex.mk.sizeOf_spec] at h; omega
  | succ n ih =>
    intro a hn hl b A A' c c' S S' w hr hr'
    have hlen : a.list.length ≤ 2305843009213693951 := by
      have : a.list.length ≤ longE a := by cases a; rw [longE]; exact Nat.le_max_left _ _
      omega
    have HC := Lib.hid (fun (W : World) (hk : Keep (fun _ => False) w W) => sames_any a.list b.list hlen (fun x hx y => ih x (by have := sizeOf_mem hx; omega) (by have := longE_mem hx; omega) y) A A' c c' S S' W (hr.keepF hk) (hr'.keepF hk))
    rw [sameEx_parts]
    obtain ⟨v, hv⟩ : ∃ v, v = sameExs a.list b.list := ⟨_, rfl⟩
    rw [← hv] at HC ⊢
    have t1 : (a.op == b.op) = decide (a.op = b.op) := by rw [Bool.eq_iff_iff]; simp
    have t2 : (a.num == b.num) = decide (a.num = b.num) := by rw [Bool.eq_iff_iff]; simp
    have t3 := beq_str a.name b.name
    have t4 := beq_str a.field b.field
    obtain ⟨p1, h1⟩ : ∃ p, p = decide (a.op = b.op) := ⟨_, rfl⟩
    obtain ⟨p2, h2⟩ : ∃ p, p = decide (a.num = b.num) := ⟨_, rfl⟩
    obtain ⟨p3, h3⟩ : ∃ p, p = decide (a.name = b.name) := ⟨_, rfl⟩
    obtain ⟨p4, h4⟩ : ∃ p, p = decide (a.field = b.field) := ⟨_, rfl⟩
    rw [← h1] at t1 ⊢
    rw [← h2] at t2 ⊢
    rw [← h3] at t3 ⊢
    rw [← h4] at t4 ⊢
    unfold exA
    clear ih hn hl hlen hr hr' hv h1 h2 h3 h4
    go_enter Tryz.func12, Tryz.ntmps12
    go_upto_region 1 with fail
    obtain ⟨W0, hWW0⟩ : ∃ W0, W0 = w.alloc (.cells #[.int .i64 a.op, .int .i64 a.num, .string a.name, .string a.field, .slice A a.list.length c] 25) := ⟨_, rfl⟩
    rw [← hWW0]
    have HBW0 := Lib.hid (show Blk W0 w.heap.size #[.int .i64 a.op, .int .i64 a.num, .string a.name, .string a.field, .slice A a.list.length c] 25 by rw [hWW0]; exact Blk.new _ _ _)
    have HAW0 := Lib.hid (show Keep (fun _ => False) w W0 by rw [hWW0]; exact (Keep.refl _ _).alloc _)
    have HZW0 := Lib.hid (show W0.heap.size = w.heap.size + 1 by rw [hWW0]; simp)
    clear hWW0
    obtain ⟨W1, hWW1⟩ : ∃ W1, W1 = W0.alloc (.cells #[.int .i64 b.op, .int .i64 b.num, .string b.name, .string b.field, .slice A' b.list.length c'] 25) := ⟨_, rfl⟩
    rw [← hWW1]
    have HBW1 := Lib.hid (show Blk W1 W0.heap.size #[.int .i64 b.op, .int .i64 b.num, .string b.name, .string b.field, .slice A' b.list.length c'] 25 by rw [hWW1]; exact Blk.new _ _ _)
    have HAW1 := Lib.hid (show Keep (fun _ => False) W0 W1 by rw [hWW1]; exact (Keep.refl _ _).alloc _)
    have HZW1 := Lib.hid (show W1.heap.size = W0.heap.size + 1 by rw [hWW1]; simp)
    clear hWW1
    have hbw1 := HBW1.out
    rw [HZW0.out] at hbw1
    have hz1 : w.heap.size + 1 < W1.heap.size := by rw [HZW1.out, HZW0.out]; omega
    have hz0 : w.heap.size < W1.heap.size := by omega
    have b5 := hbw1.all5
    have a5 := (HAW1.out.blk HBW0.out (fun h => h)).all5
    have HK := Lib.hid (HAW0.out.trans HAW1.out)
    clear HBW1 HBW0 HZW0 HZW1 hbw1 HAW0 HAW1
    cases p1 with
    | false =>
      go_wp2_with fail
      go_ret
      exact ⟨rfl, HK.out⟩
    | true =>
    cases p2 with
    | false =>
      go_wp2_with fail
      go_ret
      exact ⟨rfl, HK.out⟩
    | true =>
    cases p3 with
    | false =>
      go_wp2_with fail
      go_ret
      exact ⟨rfl, HK.out⟩
    | true =>
    cases p4 with
    | false =>
      go_wp2_with fail
      go_ret
      exact ⟨rfl, HK.out⟩
    | true =>
      go_wp2_with fail
      refine (HC.out W1 HK.out).mono ?_
      rintro en w2 ⟨rfl, hk2⟩
      go_wp2_with fail
      go_ret
      exact ⟨by simp, HK.out.trans hk2⟩
end Go.Proofs.YtgmmjhelcpgakaaGreatDoor
