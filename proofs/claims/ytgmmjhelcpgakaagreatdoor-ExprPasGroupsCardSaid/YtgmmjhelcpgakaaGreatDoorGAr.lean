/- The reference of expressions: call. -/
import Derived.Test.YtgmmjhelcpgakaaGreatDoorGAi
import Derived.Test.YtgmmjhelcpgakaaGreatDoorGAq
import Derived.Test.YtgmmjhelcpgakaaGreatDoorGAo
import Derived.Test.YtgmmjhelcpgakaaGreatDoorGAp
import Derived.Deep.CutRange
namespace Go.Proofs.YtgmmjhelcpgakaaGreatDoor
open Go.RowKit
set_option linter.unusedVariables false
set_option linter.unusedSimpArgs false

/-- A row of expressions that was made here; nil is one. -/
def OwnV (B : Nat) (w : World) (A : Option Addr) (cap : Nat) (es : List Ex) : Prop := ∃ xs, w.ownsRow B 25 5 (.slice A es.length cap) es.length xs ∧ CellsOf (fun k => B ≤ k ∧ ¬ (Value.slice A es.length cap).ownBlock = some k) w es xs
theorem OwnV.nil (B : Nat) (w : World) : OwnV B w none 0 [] := ⟨[], World.ownsRow_nil _ _ _ _, .nil⟩
theorem OwnV.own {B : Nat} {w : World} {A : Option Addr} {cap : Nat} {es : List Ex} (h : OwnV B w A cap es) : ∀ k, (Value.slice A es.length cap).ownBlock = some k → B ≤ k ∧ k < w.heap.size := by
  obtain ⟨xs, h1, h2⟩ := h
  exact World.ownsRow.lt h1
theorem OwnV.row {B : Nat} {w : World} {A : Option Addr} {cap : Nat} {es : List Ex} (h : OwnV B w A cap es) : RdRow (B ≤ ·) w es A := by
  intro hne
  obtain ⟨xs, h1, h2⟩ := h
  have h1' := h1
  obtain ⟨h3, h4⟩ := h1'
  rcases h4 with ⟨hv, h0⟩ | ⟨g, cp, cur, hv, hB, hg, hr⟩
  · exact absurd (List.eq_nil_of_length_eq_zero h0) hne
  · injection hv with hA _ _
    subst hA
    refine ⟨g, 0, rfl, hB, (h2.row fun i v hi => ?_).mono (fun k _ h => h.1)⟩
    have := World.ownsRow.cells h1 (g := g) rfl i v hi
    have ha : (⟨g, 0, none⟩ : Addr).add i = ⟨g, 0 + i, none⟩ := by unfold Addr.add; split <;> simp_all
    rw [ha, Nat.zero_add] at this
    exact this
theorem OwnV.keep {P : Nat → Prop} {B : Nat} {w w' : World} {A : Option Addr} {cap : Nat} {es : List Ex} (h : OwnV B w A cap es) (hk : Keep P w w') (hp : ∀ k, P k → k < B) : OwnV B w' A cap es := by
  have hlt := h.own
  obtain ⟨xs, h1, h2⟩ := h
  exact ⟨xs, ownsRow_keep h1 hk (fun k hk hpk => by have := hp k hpk; have := (hlt k hk).1; omega), h2.keep hk fun k h3 h4 => by have := hp k h3; omega⟩
/-- A row that was appended to: what was grown is the row alone. -/
theorem OwnV.grown {B : Nat} {w w' : World} {A : Option Addr} {cap cap2 gg : Nat} {es : List Ex} {xs : List Value} {e2 : Ex} {A2 : Option Addr} {cc2 b0 : Nat}
    (hcl : CellsOf (fun k => B ≤ k ∧ ¬ (Value.slice A es.length cap).ownBlock = some k) w es xs) (hb0 : b0 < w.heap.size) (hBb : B ≤ b0)
    (hrow : RdRow (b0 ≤ ·) w e2.list A2) (hold : ∀ k, (Value.slice A es.length cap).ownBlock = some k → k < b0)
    (hk : Keep (fun k => (Value.slice A es.length cap).ownBlock = some k) w w') (hgg : (Value.slice A es.length cap).ownBlock = some gg ∨ w.heap.size < gg)
    (hown : w'.ownsRow B 25 5 (.slice (some ⟨gg, 0, none⟩) (es.length + 1) cap2) (es.length + 1) (xs ++ [.int .i64 e2.op, .int .i64 e2.num, .string e2.name, .string e2.field, .slice A2 e2.list.length cc2])) : OwnV B w' (some ⟨gg, 0, none⟩) cap2 (es ++ [e2]) := by
  have hg0 : (Value.slice (some ⟨gg, 0, none⟩) (es.length + 1) cap2).ownBlock = some gg := rfl
  have hne : ∀ k, k < w.heap.size → ¬ (Value.slice A es.length cap).ownBlock = some k → k ≠ gg := by
    intro k hk hn he
    rcases hgg with h | h
    · exact hn (by rw [he]; exact h)
    · omega
  refine ⟨xs ++ (exA e2 A2 cc2).toList, by rw [List.length_append, List.length_singleton]; exact hown, .snoc ?_ ?_⟩
  · refine ((hcl.mono (S' := fun k => B ≤ k ∧ (¬ (Value.slice A es.length cap).ownBlock = some k) ∧ k ≠ gg) fun k hk h => ⟨h.1, h.2, hne k hk h.2⟩).keep hk (fun k h1 h2 => h2.2.1 h1)).mono fun k _ h => ⟨h.1, fun he => h.2.2 ?_⟩
    rw [show (Value.slice (some ⟨gg, 0, none⟩) (es ++ [e2]).length cap2).ownBlock = some gg from rfl] at he
    injection he with he; exact he.symm
  · have hn2 : ∀ k, b0 ≤ k → ¬ (Value.slice A es.length cap).ownBlock = some k := fun k hk he => by have := hold k he; omega
    refine ((hrow.mono (S' := fun k => B ≤ k ∧ (¬ (Value.slice A es.length cap).ownBlock = some k) ∧ k ≠ gg) fun k hk h => ⟨Nat.le_trans hBb h, hn2 k h, hne k hk (hn2 k h)⟩).keep hk (fun k h1 h2 => h2.2.1 h1)).mono fun k _ h => ⟨h.1, fun he => h.2.2 ?_⟩
    rw [show (Value.slice (some ⟨gg, 0, none⟩) (es ++ [e2]).length cap2).ownBlock = some gg from rfl] at he
    injection he with he; exact he.symm
set_option maxRecDepth 100000 in
set_option maxHeartbeats 16000000 in
theorem call_ref (l : List TokL) (g c f : Nat) (ihl : ∀ f', f' < f → DoesL l g c f') : DoesC l g c f := by
  intro name i w r hi ht hr
  have hu := Tryz.underlying63
  have hue := Tryz.underlying25
  have hud := Tryz.underlying30
  have hu26 := Tryz.underlying28
  obtain ⟨i0, hi0, hz0, hz1, hz2⟩ := info_parts info_ex
  have hbig := ht.big
  have HT := Lib.hid ht
  have HL := Lib.hid ihl
  clear ihl ht
  have HIS : Hid (∀ (j : Nat) (s : ByteArray) W, j ≤ 2000000 → Keep (fun _ => False) w W → Calls Tryz.prog 94 #[.slice (some ⟨g, 0, none⟩) l.length c, .int .i64 j, .string s] W fun e w' => e = .returned (.bool (isT l j s)) ∧ Keep (fun _ => False) W w') := fun j s W hj hk => refIs_any g c l j hj s W (HT.out.keep hk)
  have HTOK : Hid (∀ (j : Nat) W, j ≤ 2000000 → Keep (fun _ => False) w W → Calls Tryz.prog 24 #[.slice (some ⟨g, 0, none⟩) l.length c, .int .i64 j] W fun e w' => e = .returned (.agg (tokA (tk l j))) ∧ Keep (fun _ => False) W w') := fun j W hj hk => refTok_any g c l j hj W (HT.out.keep hk)
  have HWR : Hid (∀ (j : Nat) W, j ≤ 2000000 → Keep (fun _ => False) w W → Calls Tryz.prog 126 #[.slice (some ⟨g, 0, none⟩) l.length c, .int .i64 j] W (GPost (wrongAt l j) W)) := fun j W hj hk => refwrong_any g c l j hj W (HT.out.keep hk)
  have HR := Lib.hid hr
  clear hr
  go_enter Tryz.func150, Tryz.ntmps150
  go_upto_region 1 with fail
  obtain ⟨W0, hWW0⟩ : ∃ W0, W0 = w.alloc (.cells #[.int .i64 0, .int .i64 0, .string ⟨#[]⟩, .string ⟨#[]⟩, .slice none 0 0, .int .i64 0, .int .i64 0, .int .i64 0, .int .i64 0, .int .i64 0] 63) := ⟨_, rfl⟩
  rw [← hWW0]
  have HBW0 := Lib.hid (show Blk W0 w.heap.size #[.int .i64 0, .int .i64 0, .string ⟨#[]⟩, .string ⟨#[]⟩, .slice none 0 0, .int .i64 0, .int .i64 0, .int .i64 0, .int .i64 0, .int .i64 0] 63 by rw [hWW0]; exact Blk.new _ _ _)
  have HAW0 := Lib.hid (show Keep (fun _ => False) w W0 by rw [hWW0]; exact (Keep.refl _ _).alloc _)
  have HZW0 := Lib.hid (show W0.heap.size = w.heap.size + 1 by rw [hWW0]; simp)
  clear hWW0
  go_upto_region 2 with fail
  obtain ⟨W1, hWW1⟩ : ∃ W1, W1 = W0.alloc (.cells #[.int .i64 7, .int .i64 0, .string name, .string ⟨#[]⟩, .slice none 0 0] 25) := ⟨_, rfl⟩
  rw [← hWW1]
  have HBW1 := Lib.hid (show Blk W1 W0.heap.size #[.int .i64 7, .int .i64 0, .string name, .string ⟨#[]⟩, .slice none 0 0] 25 by rw [hWW1]; exact Blk.new _ _ _)
  have HAW1 := Lib.hid (show Keep (fun _ => False) W0 W1 by rw [hWW1]; exact (Keep.refl _ _).alloc _)
  have HZW1 := Lib.hid (show W1.heap.size = W0.heap.size + 1 by rw [hWW1]; simp)
  clear hWW1
  obtain ⟨bX, hbX⟩ : ∃ bX, bX = W0.heap.size := ⟨_, rfl⟩
  have hRX : w.heap.size < bX := by rw [hbX, HZW0.out]; omega
  have hRX2 : bX < w.heap.size + 2 := by rw [hbX, HZW0.out]; omega
  rw [← hbX] at HBW1 ⊢
  have HXW1 := Lib.hid HBW1.out
  have HKa := Lib.hid (HAW0.out.trans HAW1.out)
  have HBW1x := Lib.hid (HAW1.out.blk HBW0.out (fun h => h))
  clear hbX HBW1
  have HBW1 := HBW1x
  have HTW1 := HXW1
  clear HBW1x HXW1
  have hxr : w.heap.size ≠ bX := by omega
  go_wp2_with fail
  refine (HIS.out (i) gClose W1 (by omega) HKa.out).mono ?_
  rintro e wa ⟨rfl, hkx⟩
  have HKwa := Lib.hid (HKa.out.trans hkx)
  have HBwa := Lib.hid (hkx.blk HBW1.out (fun h => h))
  have HTwa := Lib.hid (hkx.blk HTW1.out (fun h => h))
  clear hkx
  cases hb1 : isT l i gClose with
  | true =>
    have hr := HR.out
    rw [if_pos hb1] at hr
    obtain rfl : Res.ok (.mk 7 0 name eS []) (i + 1) = r := by injection hr
    clear hr hb1 HR
    have b10 := HBwa.out.all10
    have x5 := HTwa.out.all5
    have hlt := HBwa.out.lt
    have hlt2 := HTwa.out.lt
    go_wp2_with fail
    refine bodyPost_ret (v := .agg (gotA (.ok (.mk 7 0 name eS []) (i + 1)) none 0)) (by simp [gotA, resE, resI, resC, resP, exNil, exVar, exOne, Ex.op, Ex.num, Ex.name, Ex.field, Ex.list, results, Tryz.results150, go_sem, b10, x5, hlt, eS]) rfl ⟨none, 0, rfl, ?_, ?_⟩
    · exact RdRow.nil _ _ _
    · exact (Keep.put10 (HKwa.out) (.inl (Nat.le_refl _)) _ _ _ _ _ _ _ _ _ _)
  | false =>
  have hr := HR.out
  rw [if_neg (by rw [hb1]; decide)] at hr
  have HR := Lib.hid hr
  clear hr hb1
  go_wp2_with fail
  go_loopg [3, 10] f (fun n v3 v10 wr => ∃ (es : List Ex) (j : Nat) (A : Option Addr) (cap : Nat), v3 = .int .i64 j ∧ v10 = .bool false ∧ Blk wr bX (exA (.mk 7 0 name eS es) A cap) 25 ∧ Blk wr w.heap.size zGot 63 ∧ OwnV (w.heap.size + 2) wr A cap es ∧ Keep (fun _ => False) w wr ∧ j ≤ l.length ∧ es.length ≤ j ∧ n ≤ f ∧ Hid (rm l n (.callL name es) j = some r))
  case atStart => exact ⟨[], i, none, 0, rfl, rfl, HTwa.out, HBwa.out, OwnV.nil _ _, HKwa.out, hi, Nat.zero_le _, Nat.le_refl _, HR.out⟩
  case round =>
    obtain ⟨es, j, A, cap, rfl, rfl, hbx, hbr, hown, hkp, hj, hel, hn, HP⟩ := hrel
    have HBX := Lib.hid hbx; have HBR := Lib.hid hbr; have HOWN := Lib.hid hown; have HKP := Lib.hid hkp
    have hrl := hbr.lt
    have hxl := hbx.lt
    clear hbx hbr hown hkp
    cases gk with
    | zero => exact absurd HP.out (by rw [rm]; simp)
    | succ n =>
    have hP := HP.out
    rw [rm] at hP
    rcases nxt_some hP with ⟨cb, pb, hr0, rfl⟩ | ⟨e0, j0, hr0, hr1⟩
    · have HC := Lib.hid (HL.out n (by omega) 1 j wr _ (by omega) (by omega) hj (HT.out.keep HKP.out) hr0)
      have hcb := rm_bad hr0
      have tcb : ((cb : Int) != 0) = true := by rw [bne_iff_ne]; omega
      clear hP hr0 hcb HP
      go_wp2_with fail
      refine HC.out.mono ?_
      rintro e wb ⟨A2, cc2, rfl, hrow, hkb⟩
      have HB := Lib.hid (hkb.blk HBR.out (fun h => h))
      have b10 := HB.out.all10
      have hlt := HB.out.lt
      have HKb := Lib.hid (HKP.out.trans hkb)
      clear hrow hkb
      rw [gotA_bad]
      go_wp2_with fail
      refine bodyPost_ret (v := .agg (gotA (.bad cb pb) A2 cc2)) (by simp [gotA, resE, resI, resC, resP, exNil, exVar, exOne, Ex.op, Ex.num, Ex.name, Ex.field, Ex.list, results, Tryz.results150, go_sem, b10, hlt]) rfl ⟨A2, cc2, rfl, ?_, ?_⟩
      · exact RdRow.nil _ _ _
      · exact (Keep.put10 (HKb.out) (.inl (Nat.le_refl _)) _ _ _ _ _ _ _ _ _ _).alloc _
    · have HC := Lib.hid (HL.out n (by omega) 1 j wr _ (by omega) (by omega) hj (HT.out.keep HKP.out) hr0)
      have hj0 := rm_le_len hr0 hj
      have hj1 : j + 1 ≤ j0 := (Dv.of_rm l _ _ _ _ _ hr0).adv
      have HR1 := Lib.hid hr1
      clear hP hr0 hr1 HP
      go_wp2_with fail
      refine HC.out.mono ?_
      rintro e w3 ⟨A2, cc2, rfl, hrow, hk3⟩
      have HROW3 := Lib.hid hrow; have HK3 := Lib.hid hk3
      clear hrow hk3
      rw [gotA_ok]
      go_upto_region 15 with fail
      obtain ⟨W4, hWW4⟩ : ∃ W4, W4 = w3.alloc (.cells #[.int .i64 e0.op, .int .i64 e0.num, .string e0.name, .string e0.field, .slice A2 e0.list.length cc2, .int .i64 j0, .int .i64 0, .int .i64 0, .int .i64 0, .int .i64 0] 63) := ⟨_, rfl⟩
      rw [← hWW4]
      have HBW4 := Lib.hid (show Blk W4 w3.heap.size #[.int .i64 e0.op, .int .i64 e0.num, .string e0.name, .string e0.field, .slice A2 e0.list.length cc2, .int .i64 j0, .int .i64 0, .int .i64 0, .int .i64 0, .int .i64 0] 63 by rw [hWW4]; exact Blk.new _ _ _)
      have HAW4 := Lib.hid (show Keep (fun _ => False) w3 W4 by rw [hWW4]; exact (Keep.refl _ _).alloc _)
      have HZW4 := Lib.hid (show W4.heap.size = w3.heap.size + 1 by rw [hWW4]; simp)
      clear hWW4
      obtain ⟨bG, hbG⟩ : ∃ bG, bG = w3.heap.size := ⟨_, rfl⟩
      have hgs : wr.heap.size ≤ bG := by have := HK3.out.size; omega
      have hXG : bX < bG := by omega
      have hRG : w.heap.size < bG := by omega
      have hg4 : bG < W4.heap.size := by have := HZW4.out; omega
      have hw4 : w.heap.size + 2 ≤ W4.heap.size := by omega
      rw [← hbG] at HBW4 ⊢
      have hk4 := HK3.out.trans HAW4.out
      have HK4 := Lib.hid hk4
      have HKP4 := Lib.hid (HKP.out.trans hk4)
      have HBX4 := Lib.hid (hk4.blk HBX.out (fun h => h))
      have HBR4 := Lib.hid (hk4.blk HBR.out (fun h => h))
      have HOWN4 := Lib.hid (HOWN.out.keep hk4 (fun k h => h.elim))
      have hold : ∀ k, (Value.slice A es.length cap).ownBlock = some k → w.heap.size + 2 ≤ k ∧ k < wr.heap.size := HOWN.out.own
      have HOLD := Lib.hid hold
      have HROW4 := Lib.hid (HROW3.out.keepF HAW4.out)
      clear hk4 hbG hold
      obtain ⟨xs, how, hcl⟩ := HOWN4.out
      have HOW := Lib.hid how; have HCL := Lib.hid hcl
      clear how hcl
      have x5 := HBX4.out.all5
      have g10 := HBW4.out.all10
      have hx4 := HBX4.out.lt
      have hr4 := HBR4.out.lt
      go_wp2_with (at_builtin; refine wpList_append_lies _ rfl _ _ 23 rfl (w.heap.size + 2) 25 i0 _ 5 72 Tryz.underlying23 hi0 hz0 hz1 hz2 rfl (by decide) (.slice A es.length cap) es.length xs rfl (HOW.out.alloc _) ⟨W4.heap.size, 0, none⟩ 1 1 [.int .i64 e0.op, .int .i64 e0.num, .string e0.name, .string e0.field, .slice A2 e0.list.length cc2] rfl rfl (World.news_of_block (cs := #[.int .i64 e0.op, .int .i64 e0.num, .string e0.name, .string e0.field, .slice A2 e0.list.length cc2]) (t := 25) (fr := (0, 0)) (by exact Blk.new _ _ _)) (by simp [Value.oneCell']) (by omega) (by unfold maxLen; omega) (by omega) (by simp; omega) (W4.heap.size + 1) (by simp) ?_)
      intro gg cap2 w6 hown6 hgrow hat hlt6
      clear x5 g10
      have hkg : Keep (fun k => (Value.slice A es.length cap).ownBlock = some k) W4 w6 := ((Keep.refl _ W4).alloc _).grown hgrow (fun k hk _ => hk)
      have hOW6 : OwnV (w.heap.size + 2) w6 (some ⟨gg, 0, none⟩) cap2 (es ++ [e0]) := by
        refine OwnV.grown HCL.out (b0 := wr.heap.size) (by omega) (by omega) HROW4.out (fun k hk => (HOLD.out k hk).2) hkg ?_ hown6
        rcases hat with h | h
        · exact .inl h
        · right; rw [h]; omega
      have HBX6 := Lib.hid (hkg.blk HBX4.out (fun h => by have := (HOLD.out _ h).1; omega))
      have HBR6 := Lib.hid (hkg.blk HBR4.out (fun h => by have := (HOLD.out _ h).1; omega))
      have HBG6 := Lib.hid (hkg.blk HBW4.out (fun h => by have := (HOLD.out _ h).2; omega))
      have HOWN6 := Lib.hid hOW6
      have HK6 := Lib.hid ((HKP4.out.mono (Q := fun k => (Value.slice A es.length cap).ownBlock = some k) (fun _ _ h => h.elim)).trans hkg |>.mono (Q := fun _ => False) (fun k hk h => by have := (HOLD.out _ h).1; omega))
      clear hown6 hgrow hat hkg hOW6 HOW HCL
      have x5 := HBX6.out.all5
      have hx6 := HBX6.out.lt
      go_upto_region 18 with fail
      obtain ⟨W7, hW7⟩ : ∃ W7, W7 = w6.setCell ⟨bX, 4, none⟩ (.slice (some ⟨gg, 0, none⟩) (es.length + 1) cap2) := ⟨_, rfl⟩
      rw [← hW7]
      have hk7 : Keep (· = bX) w6 W7 := by rw [hW7]; exact (Keep.refl (· = bX) w6).set1 4 _
      have HBX7 : Hid (Blk W7 bX (exA (.mk 7 0 name eS (es ++ [e0])) (some ⟨gg, 0, none⟩) cap2) 25) := by
        refine Lib.hid ?_
        have h := HBX6.out.set 4 (.slice (some ⟨gg, 0, none⟩) (es.length + 1) cap2)
        rw [hW7]
        simpa [exA, Ex.op, Ex.num, Ex.name, Ex.field, Ex.list] using h
      have HBR7 := Lib.hid (hk7.blk HBR6.out (by omega))
      have HBG7 := Lib.hid (hk7.blk HBG6.out (by omega))
      have HOWN7 := Lib.hid (HOWN6.out.keep hk7 (fun k hk => by omega))
      have HK7 := Lib.hid (((HK6.out.mono (Q := (· = bX)) (fun _ _ h => h.elim)).trans hk7).mono (Q := fun _ => False) (fun k hk h => by omega))
      clear hW7 hk7 x5 hx6 HBX6 HBR6 HBG6 HOWN6 HK6 HBX4 HBR4 HBW4 HOWN4 HKP4 HROW4 HK4 HOLD
      have g10 := HBG7.out.all10
      have hg7 := HBG7.out.lt
      go_wp2_with fail
      clear g10
      refine (HIS.out (j0) gClose W7 (by omega) HK7.out).mono ?_
      rintro e wb ⟨rfl, hkx⟩
      have HKb := Lib.hid (HK7.out.trans hkx)
      have HBRb := Lib.hid (hkx.blk HBR7.out (fun h => h))
      have HBXb := Lib.hid (hkx.blk HBX7.out (fun h => h))
      have HOWNb := Lib.hid (HOWN7.out.keep hkx (fun k h => h.elim))
      clear hkx HBR7 HBX7 HBG7 HOWN7 HK7
      have hr1 := HR1.out
      cases hb2 : isT l j0 gClose with
      | true =>
        rw [if_pos hb2] at hr1
        obtain rfl : Res.ok (.mk 7 0 name eS (es ++ [e0])) (j0 + 1) = r := by injection hr1
        clear hr1 hb2 HR1
        have b10 := HBRb.out.all10
        have x5 := HBXb.out.all5
        have hlt := HBRb.out.lt
        have hlt2 := HBXb.out.lt
        go_wp2_with fail
        have hkp := fun (X : World) v0 v1 v2 v3 v4 v5 v6 v7 v8 v9 => Keep.put10 (P := (· = w.heap.size)) (b := w.heap.size) (Keep.refl _ X) (.inr rfl) v0 v1 v2 v3 v4 v5 v6 v7 v8 v9
        refine bodyPost_ret (v := .agg (gotA (.ok (.mk 7 0 name eS (es ++ [e0])) (j0 + 1)) (some ⟨gg, 0, none⟩) cap2)) (by simp [gotA, resE, resI, resC, resP, exNil, exVar, exOne, Ex.op, Ex.num, Ex.name, Ex.field, Ex.list, results, Tryz.results150, go_sem, b10, x5, hlt, eS]) rfl ⟨(some ⟨gg, 0, none⟩), cap2, rfl, ?_, ?_⟩
        · exact (HOWNb.out.keep (hkp _ _ _ _ _ _ _ _ _ _ _) (fun k h => by omega)).row.base (by omega)
        · exact (Keep.put10 (HKb.out) (.inl (Nat.le_refl _)) _ _ _ _ _ _ _ _ _ _)
      | false =>
        rw [if_neg (by rw [hb2]; decide)] at hr1
        have HR1 := Lib.hid hr1
        clear hr1 hb2
        go_wp2_with fail
        refine (HIS.out (j0) gComma wb (by omega) HKb.out).mono ?_
        rintro e wc ⟨rfl, hkx⟩
        have HKc := Lib.hid (HKb.out.trans hkx)
        have HBRc := Lib.hid (hkx.blk HBRb.out (fun h => h))
        have HBXc := Lib.hid (hkx.blk HBXb.out (fun h => h))
        have HOWNc := Lib.hid (HOWNb.out.keep hkx (fun k h => h.elim))
        clear hkx HBRb HBXb HOWNb HKb
        have hr1 := HR1.out
        cases hb2 : isT l j0 gComma with
        | false =>
          rw [if_neg (by rw [hb2]; decide)] at hr1
          obtain rfl : wrongAt l j0 = r := by injection hr1
          clear hr1 hb2 HR1
          go_wp2_with fail
          refine (HWR.out j0 wc (by omega) HKc.out).mono ?_
          rintro e wf ⟨A3, cc3, rfl, hrow2, hkf⟩
          have b10 := (hkf.blk HBRc.out (fun h => h)).all10
          have hlt := (hkf.blk HBRc.out (fun h => h)).lt
          have HKf := Lib.hid (HKc.out.trans hkf)
          clear hrow2 hkf
          rw [wrongAt_eq, gotA_bad]
          go_wp2_with fail
          refine bodyPost_ret (v := .agg (gotA (.bad (wrC l j0) (tk l j0).pos) A3 cc3)) (by simp [gotA, resE, resI, resC, resP, exNil, exVar, exOne, Ex.op, Ex.num, Ex.name, Ex.field, Ex.list, results, Tryz.results150, go_sem, b10, hlt]) rfl ⟨A3, cc3, rfl, ?_, ?_⟩
          · exact RdRow.nil _ _ _
          · exact (Keep.put10 (HKf.out) (.inl (Nat.le_refl _)) _ _ _ _ _ _ _ _ _ _)
        | true =>
          have hin : j0 + 1 ≤ l.length := isT_in hb2
          rw [if_pos hb2] at hr1
          have HR1 := Lib.hid hr1
          clear hr1 hb2
          go_wp2_with fail
          go_roundg n
          case measure => omega
          case rel => exact ⟨es ++ [e0], j0 + 1, some ⟨gg, 0, none⟩, cap2, by go_num, rfl, HBXc.out, HBRc.out, HOWNc.out, HKc.out, hin, by simp; omega, by omega, HR1.out⟩
/-- The reference's readers, tied together. -/
theorem ref_all (l : List TokL) (g c : Nat) : ∀ f, DoesL l g c f ∧ DoesF l g c f ∧ DoesN l g c f ∧ DoesC l g c f := by
  intro f
  induction f using Nat.strongRecOn with
  | ind f ih =>
    have hL : ∀ f', f' < f → DoesL l g c f' := fun f' h => (ih f' h).1
    have hF : ∀ f', f' < f → DoesF l g c f' := fun f' h => (ih f' h).2.1
    have hN : ∀ f', f' < f → DoesN l g c f' := fun f' h => (ih f' h).2.2.1
    have hC : ∀ f', f' < f → DoesC l g c f' := fun f' h => (ih f' h).2.2.2
    exact ⟨level_any l g c f hL hF, factor_ref l g c f hL hF hN, named_ref l g c f hL hC, call_ref l g c f hL⟩
end Go.Proofs.YtgmmjhelcpgakaaGreatDoor
