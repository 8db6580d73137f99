/- The law LexPasJoins, walked. -/
import Derived.Test.YtcdmkmbbliaefaaGreatDoorBare
import Derived.Test.YtcdmkmbbliaefaaGreatDoorPlacesS
import Derived.Test.YtcdmkmbbliaefaaGreatDoorGreatS
namespace Go.Proofs.YtcdmkmbbliaefaaGreatDoor
open Go.RowKit
set_option linter.unusedVariables false
set_option linter.unusedSimpArgs false

theorem OwnToks.below {w w' : World} {base : Nat} {v : Value} {l : List TokL} (h : OwnToks w base v l) (hb : Below w.heap.size w w') : OwnToks w' base v l :=
  ownsRow_keep h (Keep.of_below' hb) (fun k hk hp => by have := (World.ownsRow.lt (show World.ownsRow _ _ _ _ _ _ _ from h) k hk).2; omega)
theorem Blk.below {w w' : World} {b : Nat} {cs : Array Value} {t : Nat} (h : Blk w b cs t) (hb : Below w.heap.size w w') : Blk w' b cs t := (hb.block b h.lt).trans h
/-- A row that one owns, cut short. -/
theorem own_cut {w : World} {base n m c size : Nat} {e : TypeId} {A : Option Addr} {xs : List Value} (h : w.ownsRow base e size (.slice A n c) n xs) (hm : m ≤ n) : w.ownsRow base e size (.slice A m c) m (xs.take (m * size)) := by
  obtain ⟨h1, h2⟩ := h
  have hle : m * size ≤ n * size := Nat.mul_le_mul_right _ hm
  refine ⟨by rw [List.length_take, h1]; exact Nat.min_eq_left hle, ?_⟩
  rcases h2 with ⟨he, h0⟩ | ⟨g, cap, cur, he, hb, hh, hnc, hcm, hcs, ht⟩
  · injection he with ha _ hc
    refine .inl ⟨by rw [ha, hc, show m = 0 by omega], by omega⟩
  · injection he with ha _ hc
    rw [ha, hc]
    exact .inr ⟨g, cap, cur, rfl, hb, hh, by omega, hcm, hcs, by rw [← ht, List.take_take, Nat.min_eq_left hle]⟩
theorem toksC_len (l : List TokL) : (toksC l).length = l.length * 7 := by
  unfold toksC
  induction l with
  | nil => rfl
  | cons x l ih =>
    rw [List.flatMap_cons, List.length_append, ih, List.length_cons]
    show 7 + _ = _
    omega
theorem own_cap {w : World} {base n c size : Nat} {e : TypeId} {A : Option Addr} {xs : List Value} (h : w.ownsRow base e size (.slice A n c) n xs) : n ≤ c := by
  rcases h.2 with ⟨_, h0⟩ | ⟨g, cap, cur, he, _, _, hnc, _⟩
  · omega
  · injection he with _ _ hc; omega
theorem OwnToks.cut {w : World} {base n c : Nat} {A : Option Addr} {a b : List TokL} (h : OwnToks w base (.slice A n c) (a ++ b)) (hn : n = (a ++ b).length) : w.ownsRow base 38 7 (.slice A a.length c) a.length (toksC a) := by
  subst hn
  have h1 := own_cut (m := a.length) (show World.ownsRow _ _ _ _ _ _ _ from h) (by rw [List.length_append]; omega)
  have h2 : (toksC (a ++ b)).take (a.length * 7) = toksC a := by
    have hl := toksC_len a
    unfold toksC at *
    rw [List.flatMap_append, List.take_append_of_le_length (by omega), List.take_of_length_le (by omega)]
  rw [h2] at h1
  exact h1
theorem toksC_one (l : List TokL) : ∀ u ∈ toksC l, u.oneCell' = true := by
  intro u hu
  unfold toksC at hu
  obtain ⟨t, _, ht⟩ := List.mem_flatMap.1 hu
  unfold tokC at ht
  simp at ht
  rcases ht with rfl | rfl | rfl | rfl | rfl | rfl | rfl <;> rfl
theorem OwnToks.news {w : World} {base n c g : Nat} {l : List TokL} (h : OwnToks w base (.slice (some ⟨g, 0, none⟩) n c) l) : ∀ j u, (toksC l)[j]? = some u → w.cell? ((⟨g, 0, none⟩ : Addr).add j) = some u :=
  fun j u hu => World.ownsRow.cells (show World.ownsRow _ _ _ _ _ _ _ from h) (g := g) rfl j u hu
theorem bs_join (s t : ByteArray) : bs (s ++ ⟨#[32]⟩ ++ t) = bs s ++ 32 :: bs t := by
  unfold bs
  rw [ByteArray.data_append, ByteArray.data_append]
  simp

set_option maxRecDepth 100000 in
set_option maxHeartbeats 4000000 in
theorem lexPasJoins_any (s t : ByteArray) (w : World) (hs : s.size ≤ 140737488351232) (ht : t.size ≤ 140737488351232) (hg : Glob w.heap.size w) :
    Calls Tryz.prog 7 #[.string s, .string t] w fun e w' => e = .returned (.bool true) ∧ Below w.heap.size w w' := by
  have hu28 := Tryz.underlying28
  have hu26 := Tryz.underlying26
  have hu38 := Tryz.underlying38
  by_cases hbig : 3000 < s.size ∨ 3000 < t.size
  · have HAW := Lib.hid (awake_any w hg)
    clear hg
    by_cases h1 : 3000 < s.size
    · have ht1 : decide ((3000 : Int) < (s.size : Int)) = true := by simp; omega
      clear hbig h1
      go_enter Tryz.func7, Tryz.ntmps7
      go_wp2_with fail
      refine HAW.out.mono ?_
      rintro e1 w1 ⟨rfl, hb⟩
      go_wp2_with fail
      go_ret
      exact ⟨rfl, hb⟩
    · have ht1 : decide ((3000 : Int) < (s.size : Int)) = false := by simp; omega
      have ht2 : decide ((3000 : Int) < (t.size : Int)) = true := by simp; omega
      clear hbig h1
      go_enter Tryz.func7, Tryz.ntmps7
      go_wp2_with fail
      refine HAW.out.mono ?_
      rintro e1 w1 ⟨rfl, hb⟩
      go_wp2_with fail
      go_ret
      exact ⟨rfl, hb⟩
  have hs3 : s.size ≤ 3000 := by omega
  have ht3 : t.size ≤ 3000 := by omega
  have ht1 : decide ((3000 : Int) < (s.size : Int)) = false := by simp; omega
  have ht2 : decide ((3000 : Int) < (t.size : Int)) = false := by simp; omega
  obtain ⟨u, hu⟩ : ∃ u, u = s ++ ⟨#[32]⟩ ++ t := ⟨_, rfl⟩
  have hub : bs u = bs s ++ 32 :: bs t := by rw [hu]; exact bs_join s t
  have hus : u.size = s.size + 1 + t.size := by rw [← bs_len, hub, List.length_append, List.length_cons, bs_len, bs_len]; omega
  obtain ⟨Rs, hRs⟩ : ∃ R, R = lexAll s := ⟨_, rfl⟩
  obtain ⟨Rt, hRt⟩ : ∃ R, R = lexAll t := ⟨_, rfl⟩
  obtain ⟨Ru, hRu⟩ : ∃ R, R = lexAll u := ⟨_, rfl⟩
  have HAs : Hid (∀ w, Glob w.heap.size w → Calls Tryz.prog 9 #[.string s] w (AllPost w Rs)) := fun w hg => by rw [hRs]; exact all_any s w (by omega) hg
  have HAt : Hid (∀ w, Glob w.heap.size w → Calls Tryz.prog 9 #[.string t] w (AllPost w Rt)) := fun w hg => by rw [hRt]; exact all_any t w (by omega) hg
  have HAu : Hid (∀ w, Glob w.heap.size w → Calls Tryz.prog 9 #[.string u] w (AllPost w Ru)) := fun w hg => by rw [hRu]; exact all_any u w (by omega) hg
  have HJ : Hid (Rs.code = 0 → ∃ a, Rs.toks.map bare = a ++ [bareEnd] ∧ Ru.code = Rt.code ∧ (Rt.code ≠ 0 → Ru.pos.1 = s.size + 1 + Rt.pos.1) ∧ (Rt.code = 0 → Ru.toks.map bare = a ++ Rt.toks.map bare)) := by
    rw [hRs, hRt, hRu]; exact joins s t hs3 ht3 u hub
  have HCs : Hid (Rs.toks.length ≤ 3001) := by show _ ≤ _; rw [hRs]; have := lexAll_count s; omega
  have HCt : Hid (Rt.toks.length ≤ 3001) := by show _ ≤ _; rw [hRt]; have := lexAll_count t; omega
  have HCu : Hid (Ru.toks.length ≤ 7002) := by show _ ≤ _; rw [hRu]; have := lexAll_count u; omega
  have HPt : Hid (Places t Rt) := by show Places _ _; rw [hRt]; exact lexAll_places t (by omega)
  have HGL := Lib.hid hg
  have HU := Lib.hid hu
  clear hg hbig hu hub hRs hRt hRu hus
  go_enter Tryz.func7, Tryz.ntmps7
  go_wp2_with fail
  refine (HAs.out _ HGL.out).mono ?_
  unfold AllPost
  rintro e1 w1 ⟨v1, rfl, ho1, hb1⟩
  obtain ⟨c1, hc1⟩ : ∃ c, c = Rs.code := ⟨_, rfl⟩
  unfold diagV
  rw [← hc1]
  obtain ⟨W1, hW1⟩ : ∃ W, W = w1.alloc (.cells #[.int .i64 c1, .int .i64 Rs.pos.1, .int .i64 Rs.pos.2.1, .int .i64 Rs.pos.2.2] 28) := ⟨_, rfl⟩
  have hD1 : Blk W1 w1.heap.size #[.int .i64 c1, .int .i64 Rs.pos.1, .int .i64 Rs.pos.2.1, .int .i64 Rs.pos.2.2] 28 := by rw [hW1]; exact Blk.new w1 _ _
  have hB1 : Below w.heap.size w W1 := by rw [hW1]; exact hb1.alloc hb1.size _
  have hO1 : OwnToks W1 w.heap.size v1 Rs.toks := by rw [hW1]; exact World.ownsRow.alloc ho1 _
  have HW1 := Lib.hid hW1; have HD1 := Lib.hid hD1; have HB1 := Lib.hid hB1; have HO1 := Lib.hid hO1; have HC1 := Lib.hid hc1
  clear hW1 hD1 hB1 hO1 ho1 hb1 hc1
  go_wp2_with fail
  rw [← HW1.out]
  refine (HAt.out _ ((HGL.out.below HB1.out (Nat.le_refl _)).mono HB1.out.size)).mono ?_
  unfold AllPost
  rintro e2 w2 ⟨v2, rfl, ho2, hb2⟩
  obtain ⟨c2, hc2⟩ : ∃ c, c = Rt.code := ⟨_, rfl⟩
  unfold diagV
  rw [← hc2]
  obtain ⟨W2, hW2⟩ : ∃ W, W = w2.alloc (.cells #[.int .i64 c2, .int .i64 Rt.pos.1, .int .i64 Rt.pos.2.1, .int .i64 Rt.pos.2.2] 28) := ⟨_, rfl⟩
  have hD2 : Blk W2 w2.heap.size #[.int .i64 c2, .int .i64 Rt.pos.1, .int .i64 Rt.pos.2.1, .int .i64 Rt.pos.2.2] 28 := by rw [hW2]; exact Blk.new w2 _ _
  have hB2 : Below W1.heap.size W1 W2 := by rw [hW2]; exact hb2.alloc hb2.size _
  have hO2 : OwnToks W2 W1.heap.size v2 Rt.toks := by rw [hW2]; exact World.ownsRow.alloc ho2 _
  have HW2 := Lib.hid hW2; have HD2 := Lib.hid hD2; have HB2 := Lib.hid hB2; have HO2 := Lib.hid hO2; have HC2 := Lib.hid hc2
  clear hW2 hD2 hB2 hO2 ho2 hb2 hc2
  go_wp2_with fail
  rw [← HW2.out, ← HU.out]
  have hB02 := HB1.out.trans (HB2.out.mono HB1.out.size)
  refine (HAu.out _ ((HGL.out.below hB02 (Nat.le_refl _)).mono hB02.size)).mono ?_
  unfold AllPost
  rintro e3 w3 ⟨v3, rfl, ho3, hb3⟩
  obtain ⟨c3, hc3⟩ : ∃ c, c = Ru.code := ⟨_, rfl⟩
  unfold diagV
  rw [← hc3]
  obtain ⟨W3, hW3⟩ : ∃ W, W = w3.alloc (.cells #[.int .i64 c3, .int .i64 Ru.pos.1, .int .i64 Ru.pos.2.1, .int .i64 Ru.pos.2.2] 28) := ⟨_, rfl⟩
  have hD3 : Blk W3 w3.heap.size #[.int .i64 c3, .int .i64 Ru.pos.1, .int .i64 Ru.pos.2.1, .int .i64 Ru.pos.2.2] 28 := by rw [hW3]; exact Blk.new w3 _ _
  have hB3 : Below W2.heap.size W2 W3 := by rw [hW3]; exact hb3.alloc hb3.size _
  have hO3 : OwnToks W3 W2.heap.size v3 Ru.toks := by rw [hW3]; exact World.ownsRow.alloc ho3 _
  have hD1' : Blk W3 w1.heap.size _ _ := (HD1.out.below HB2.out).below hB3
  have hD2' : Blk W3 w2.heap.size _ _ := HD2.out.below hB3
  have x0 := hD1'.at_ 0 (v := .int .i64 c1) rfl
  have y0 := hD2'.at_ 0 (v := .int .i64 c2) rfl
  have y1 := hD2'.at_ 1 (v := .int .i64 Rt.pos.1) rfl
  have z0 := hD3.at_ 0 (v := .int .i64 c3) rfl
  have z1 := hD3.at_ 1 (v := .int .i64 Ru.pos.1) rfl
  have HZ := Lib.hid (And.intro x0 (And.intro y0 (And.intro y1 (And.intro z0 z1))))
  rw [hW3] at x0 y0 y1 z0 z1
  have HW3 := Lib.hid hW3; have HB3 := Lib.hid hB3; have HO3 := Lib.hid hO3; have HC3 := Lib.hid hc3
  have HO1' : Hid (OwnToks W3 w.heap.size v1 Rs.toks) := (HO1.out.below HB2.out).below hB3
  have HO2' : Hid (OwnToks W3 W1.heap.size v2 Rt.toks) := HO2.out.below hB3
  have HB03 : Hid (Below w.heap.size w W3) := hB02.trans (hB3.mono hB02.size)
  clear hW3 hD3 hB3 hO3 ho3 hb3 hc3 hD1' hD2' hB02
  by_cases h1 : c1 = 0
  rotate_left
  · have e1 : ((c1 : Int) == 0) = false := by rw [beq_eq_false_iff_ne]; omega
    have HAW := Lib.hid (awake_any W3 ((HGL.out.below HB03.out (Nat.le_refl _)).mono HB03.out.size))
    clear y0 y1 z0 z1 h1
    go_wp2_with fail
    rw [← HW3.out]
    refine HAW.out.mono ?_
    rintro e4 w4 ⟨rfl, hb⟩
    go_wp2_with fail
    go_ret
    exact ⟨rfl, HB03.out.trans (hb.mono HB03.out.size)⟩
  obtain ⟨a, ha, hcode, hbad, hgood⟩ := HJ.out (by rw [← HC1.out]; exact h1)
  rw [← HC2.out, ← HC3.out] at hcode
  rw [← HC2.out] at hbad hgood
  subst hcode
  subst h1
  by_cases h2 : c3 = 0
  rotate_left
  · have e1 : ((c3 : Int) == 0) = false := by rw [beq_eq_false_iff_ne]; omega
    have hpo := hbad h2
    obtain ⟨_, q, hq, hqp⟩ := HPt.out.bad (by rw [← HC2.out]; exact h2)
    have hq1 : Rt.pos.1 = q := by rw [hqp]; rfl
    rw [hq1] at y1
    have e5 : ((Ru.pos.1 : Nat) : Int) = (s.size : Int) + 1 + (q : Int) := by rw [hpo, hq1]; omega
    have e6 : (((Ru.pos.1 : Nat) : Int) == (s.size : Int) + 1 + (q : Int)) = true := by rw [e5, beq_iff_eq]
    have HAW := Lib.hid (awake_any W3 ((HGL.out.below HB03.out (Nat.le_refl _)).mono HB03.out.size))
    have HPO := Lib.hid hpo; have HQ1 := Lib.hid hq1
    clear hbad hgood ha h2 hpo hqp hq1 e5
    go_wp2_with fail
    rw [← HW3.out]
    refine HAW.out.mono ?_
    rintro e4 w4 ⟨rfl, hb⟩
    go_wp2_with fail
    go_ret
    exact ⟨rfl, HB03.out.trans (hb.mono HB03.out.size)⟩
  -- both have tokens
  obtain rfl : c3 = 0 := h2
  have hall := hgood rfl
  have hc2 : Rt.code = 0 := HC2.out.symm
  have HW30 : Hid (W3 = w3.alloc (.cells #[.int .i64 0, .int .i64 Ru.pos.1, .int .i64 Ru.pos.2.1, .int .i64 Ru.pos.2.2] 28)) := HW3.out
  rw [show ((0 : Nat) : Int) = 0 from rfl] at x0 y0 y1 z0 z1
  obtain ⟨A1, q1, rfl⟩ := HO1'.out.form
  obtain ⟨A2, q2, rfl⟩ := HO2'.out.form
  obtain ⟨A3, q3, rfl⟩ := HO3.out.form
  obtain ⟨n1, hn1⟩ : ∃ n, n = Rs.toks.length := ⟨_, rfl⟩
  obtain ⟨n2, hn2⟩ : ∃ n, n = Rt.toks.length := ⟨_, rfl⟩
  obtain ⟨n3, hn3⟩ : ∃ n, n = Ru.toks.length := ⟨_, rfl⟩
  have hl1 : n1 ≤ 3001 := by rw [hn1]; exact HCs.out
  have hl2 : n2 ≤ 3001 := by rw [hn2]; exact HCt.out
  have hl3 : n3 ≤ 7002 := by rw [hn3]; exact HCu.out
  have P1 : Hid (OwnToks W3 w.heap.size (.slice A1 n1 q1) Rs.toks) := by rw [hn1]; exact HO1'.out
  have P2 : Hid (OwnToks W3 W1.heap.size (.slice A2 n2 q2) Rt.toks) := by rw [hn2]; exact HO2'.out
  have P3 : Hid (OwnToks W3 W2.heap.size (.slice A3 n3 q3) Ru.toks) := by rw [hn3]; exact HO3.out
  obtain ⟨na, hna⟩ : ∃ n, n = a.length := ⟨_, rfl⟩
  have hna1 : n1 = na + 1 := by
    have := congrArg List.length ha
    rw [List.length_map, List.length_append, List.length_singleton] at this
    omega
  have hn2p : 0 < n2 := by
    obtain ⟨_, ini, en, h4, _⟩ := HPt.out.good hc2
    rw [hn2, h4, List.length_append, List.length_singleton]; omega
  rw [← hn1, ← hn2, ← hn3]
  have N1 := Lib.hid hn1; have N2 := Lib.hid hn2; have N3 := Lib.hid hn3; have NA := Lib.hid hna; have HA := Lib.hid ha; have HALL := Lib.hid hall
  have HNA1 := Lib.hid hna1
  clear hn1 hn2 hn3 hna ha hall hbad hgood hna1 hc2
  go_wp2_with fail
  rw [← HW30.out]
  refine (refBare_any A1 n1 q1 w.heap.size Rs.toks W3 P1.out N1.out (by omega)).mono ?_
  rintro e4 wx ⟨vx, rfl, hox, hkx⟩
  rw [HA.out] at hox
  obtain ⟨Ax, cx, rfl⟩ := hox.form
  rw [List.length_append, List.length_singleton, ← NA.out, ← HNA1.out] at hox ⊢
  have PX := Lib.hid hox; have KX := Lib.hid hkx
  clear hox hkx
  go_wp2_with fail
  refine (refBare_any A2 n2 q2 W1.heap.size Rt.toks wx (ownsRow_keep P2.out KX.out (fun _ _ h => h)) N2.out (by omega)).mono ?_
  rintro e5 wy ⟨vy, rfl, hoy, hky⟩
  obtain ⟨gy, cy, rfl, -, -⟩ := hoy.shape (by rw [List.length_map, ← N2.out]; exact hn2p)
  rw [List.length_map, ← N2.out] at hoy ⊢
  have KY := Lib.hid (KX.out.trans hky)
  have QX : Hid (OwnToks wy W3.heap.size (.slice Ax n1 cx) (a ++ [bareEnd])) := ownsRow_keep PX.out hky (fun _ _ h => h)
  have QY := Lib.hid hoy
  have QZ : Hid (OwnToks wy W2.heap.size (.slice A3 n3 q3) Ru.toks) := ownsRow_keep P3.out KY.out (fun _ _ h => h)
  have zz : wy.cell? ⟨w3.heap.size, 0, none⟩ = some (.int .i64 0) := by obtain ⟨x0, y0, y1, z0, z1⟩ := HZ.out; exact KY.out.cell z0 (fun h => h)
  have HBY : Hid (Below w.heap.size w wy) := HB03.out.trans (KY.out.belowB HB03.out.size)
  have e1 : ((n1 : Int) == 0) = false := by rw [beq_eq_false_iff_ne]; have := HNA1.out; omega
  clear hoy hky x0 y0 y1 z0 z1
  go_wp2_with fail
  have hncx := own_cap (show World.ownsRow _ _ _ _ _ _ _ from (by have h := QX.out; unfold OwnToks at h; rw [List.length_append, List.length_singleton, ← NA.out, ← HNA1.out] at h; exact h))
  have hw : IntKind.i64.wrap ((n1 : Int) - 1) = (na : Int) := by
    have : (n1 : Int) - 1 = (na : Int) := by have := HNA1.out; omega
    rw [this]; exact IntWalk.i64_in _ (by have := HNA1.out; omega)
  have na0 : (0 : Int) ≤ (na : Int) := by omega
  have na1 : (na : Int) ≤ (cx : Int) := by have := HNA1.out; omega
  have na2 : na ≤ cx := by have := HNA1.out; omega
  have z0W : W3.cell? ⟨w3.heap.size, 0, none⟩ = some (.int .i64 0) := by obtain ⟨x0, y0, y1, z0, z1⟩ := HZ.out; exact z0
  have hnz : ¬ W3.heap.size ≤ w3.heap.size := by have := World.block_lt_of_cell? _ _ z0W; simp only at this; omega
  have KYd : Keep (W3.heap.size ≤ ·) W3 wy.drew := (KY.out.mono (fun _ _ h => h.elim)).drew
  have PXc : World.ownsRow wy.drew W3.heap.size 38 7 (.slice Ax na cx) na (toksC a) := by
    have h1 : World.ownsRow wy W3.heap.size 38 7 (.slice Ax a.length cx) a.length (toksC a) := QX.out.cut (by rw [List.length_append, List.length_singleton, ← NA.out, ← HNA1.out])
    rw [← NA.out] at h1; exact h1
  have hsz3 : W3.heap.size ≤ wy.heap.size := KY.out.size
  obtain ⟨i0, hi0, hz0, hz1, hz2⟩ := info_parts info_tok
  have HHL : Hid ((toksC (Rt.toks.map bare)).length = n2 * 7) := by show _ = _; rw [toksC_len, List.length_map, ← N2.out]
  have HZ0 := Lib.hid z0W; have HNZ := Lib.hid hnz; have HKYd := Lib.hid KYd; have HPX := Lib.hid PXc
  clear KYd PXc z0W hnz hncx
  refine wp_region_held_drew (S := fun w' => w'.cell? ⟨w3.heap.size, 0, none⟩ = some (.int .i64 0)) (by kernel_rfl) ?_ (fun hHeld => ?_)
  · exact zz
  refine wpAnyH_take (i := 0) (v := ?_) rfl (by kernel_rfl) (by kernel_rfl) (by kernel_rfl) (fun _ _ _ h => h) (Or.inl ⟨by kernel_rfl, ?_⟩) (by assumption) ?_
  rotate_left
  · (intro w hSw; (try dsimp only at hSw); go_simp; all_goals (with_reducible rfl))
  try simp only [Act.put, List.getElem_toArray, List.getElem_cons_zero, List.getElem_cons_succ, List.setIfInBounds_toArray, List.set_cons_zero, List.set_cons_succ]
  refine wpAnyH_take (i := 1) (v := ?_) rfl (by kernel_rfl) (by kernel_rfl) (by kernel_rfl) (fun _ _ _ h => h) (Or.inl ⟨by kernel_rfl, ?_⟩) (by assumption) ?_
  rotate_left
  · (intro w hSw; (try dsimp only at hSw); go_simp; all_goals (with_reducible rfl))
  try simp only [Act.put, List.getElem_toArray, List.getElem_cons_zero, List.getElem_cons_succ, List.setIfInBounds_toArray, List.set_cons_zero, List.set_cons_succ]
  refine wpAnyH_take (i := 2) (v := ?_) rfl (by kernel_rfl) (by kernel_rfl) (by kernel_rfl) (fun _ _ _ h => h) (Or.inl ⟨by kernel_rfl, ?_⟩) (by assumption) ?_
  rotate_left
  · (intro w hSw; (try dsimp only at hSw); go_simp; all_goals (with_reducible rfl))
  try simp only [Act.put, List.getElem_toArray, List.getElem_cons_zero, List.getElem_cons_succ, List.setIfInBounds_toArray, List.set_cons_zero, List.set_cons_succ]
  refine wpAnyH_take (i := 3) (v := ?_) rfl (by kernel_rfl) (by kernel_rfl) (by kernel_rfl) (fun _ _ _ h => h) (Or.inl ⟨by kernel_rfl, ?_⟩) (by assumption) ?_
  rotate_left
  · (intro w hSw; (try dsimp only at hSw); go_simp; all_goals (with_reducible rfl))
  try simp only [Act.put, List.getElem_toArray, List.getElem_cons_zero, List.getElem_cons_succ, List.setIfInBounds_toArray, List.set_cons_zero, List.set_cons_succ]
  refine wpAnyH_take (i := 4) (v := ?_) rfl (by kernel_rfl) (by kernel_rfl) (by kernel_rfl) (fun _ _ _ h => h) (Or.inl ⟨by kernel_rfl, ?_⟩) (by assumption) ?_
  rotate_left
  · (intro w hSw; (try dsimp only at hSw); go_simp; all_goals (with_reducible rfl))
  try simp only [Act.put, List.getElem_toArray, List.getElem_cons_zero, List.getElem_cons_succ, List.setIfInBounds_toArray, List.set_cons_zero, List.set_cons_succ]
  refine wpAnyH_take (i := 6) (v := ?_) rfl (by kernel_rfl) (by kernel_rfl) (by kernel_rfl) (fun _ _ _ h => h) (Or.inl ⟨by kernel_rfl, ?_⟩) (by assumption) ?_
  rotate_left
  · (intro w hSw; (try dsimp only at hSw); go_simp; all_goals (with_reducible rfl))
  try simp only [Act.put, List.getElem_toArray, List.getElem_cons_zero, List.getElem_cons_succ, List.setIfInBounds_toArray, List.set_cons_zero, List.set_cons_succ]
  refine wpAnyH_take (i := 7) (v := ?_) rfl (by kernel_rfl) (by kernel_rfl) (by kernel_rfl) (fun _ _ _ h => h) (Or.inl ⟨by kernel_rfl, ?_⟩) (by assumption) ?_
  rotate_left
  · (intro w hSw; (try dsimp only at hSw); go_simp; all_goals (with_reducible rfl))
  try simp only [Act.put, List.getElem_toArray, List.getElem_cons_zero, List.getElem_cons_succ, List.setIfInBounds_toArray, List.set_cons_zero, List.set_cons_succ]
  refine wpAnyH_take (i := 8) (v := ?_) rfl (by kernel_rfl) (by kernel_rfl) (by kernel_rfl) (fun _ _ _ h => h) (Or.inl ⟨by kernel_rfl, ?_⟩) (by assumption) ?_
  rotate_left
  · (intro w hSw; (try dsimp only at hSw); go_simp; all_goals (with_reducible rfl))
  try simp only [Act.put, List.getElem_toArray, List.getElem_cons_zero, List.getElem_cons_succ, List.setIfInBounds_toArray, List.set_cons_zero, List.set_cons_succ]
  refine wpAnyH_take (i := 9) (v := ?_) rfl (by kernel_rfl) (by kernel_rfl) (by kernel_rfl) (fun _ _ _ h => h) (Or.inl ⟨by kernel_rfl, ?_⟩) (by assumption) ?_
  rotate_left
  · (intro w hSw; (try dsimp only at hSw); go_simp; all_goals (with_reducible rfl))
  try simp only [Act.put, List.getElem_toArray, List.getElem_cons_zero, List.getElem_cons_succ, List.setIfInBounds_toArray, List.set_cons_zero, List.set_cons_succ]
  refine wpAnyH_take (i := 10) (v := ?_) rfl (by kernel_rfl) (by kernel_rfl) (by kernel_rfl) (fun _ _ _ h => h) (Or.inl ⟨by kernel_rfl, ?_⟩) (by assumption) ?_
  rotate_left
  · (intro w hSw; (try dsimp only at hSw); go_simp; all_goals (with_reducible rfl))
  try simp only [Act.put, List.getElem_toArray, List.getElem_cons_zero, List.getElem_cons_succ, List.setIfInBounds_toArray, List.set_cons_zero, List.set_cons_succ]
  refine wpAnyH_take (i := 11) (v := ?_) rfl (by kernel_rfl) (by kernel_rfl) (by kernel_rfl) (fun _ _ _ h => h) (Or.inl ⟨by kernel_rfl, ?_⟩) (by assumption) ?_
  rotate_left
  · (intro w hSw; (try dsimp only at hSw); go_simp; all_goals (with_reducible rfl))
  try simp only [Act.put, List.getElem_toArray, List.getElem_cons_zero, List.getElem_cons_succ, List.setIfInBounds_toArray, List.set_cons_zero, List.set_cons_succ]
  clear hw na0 na1 na2
  refine wpAnyH_ready (rs := [5]) (by kernel_rfl) (by simp) ?_
  refine AllReadyH.cons rfl (fun K hK => ?_) AllReadyH.nil
  go_simp
  refine (refBare_any A3 n3 q3 W2.heap.size Ru.toks wy.drew QZ.out N3.out (by omega)).mono ?_
  rintro e6 wB ⟨vB, rfl, hoB, hkB⟩
  rw [HALL.out] at hoB
  obtain ⟨AB, cB, rfl⟩ := hoB.form
  rw [List.length_append, List.length_map, ← NA.out, ← N2.out] at hoB ⊢
  have HKB : Hid (Keep (W3.heap.size ≤ ·) W3 wB) := HKYd.out.trans (hkB.mono (fun _ _ h => h.elim))
  have HOB := Lib.hid hoB; have HkB := Lib.hid hkB
  clear hoB hkB
  try dsimp only
  refine hK.out _ _ (HKB.out.cell HZ0.out HNZ.out) (fun hHeld => ?_)
  clear hK K
  try simp only [Act.put, List.getElem_toArray, List.getElem_cons_zero, List.getElem_cons_succ, List.setIfInBounds_toArray, List.set_cons_zero, List.set_cons_succ]
  refine wpAnyH_ready (rs := [12]) (by kernel_rfl) (by simp) ?_
  refine AllReadyH.cons rfl (fun K hK => ?_) AllReadyH.nil
  refine Eq.mpr (if_pos (by kernel_rfl)) ?_
  refine wp_append_lies _ (.tmp 85) (.tmp 86) 23 rfl W3.heap.size 38 i0 _ 7 64 Tryz.underlying23 hi0 hz0 hz1 hz2 rfl (by decide) (.slice Ax na cx) na (toksC a) (by rfl) (ownsRow_keep HPX.out HkB.out (fun _ _ h => h)) ⟨gy, 0, none⟩ n2 cy (toksC (Rt.toks.map bare)) (by rfl) HHL.out (OwnToks.news (ownsRow_keep (w := wy.drew) QY.out HkB.out (fun _ _ h => h))) (toksC_one _) hn2p (by have := HNA1.out; unfold maxLen; omega) (by have := HNA1.out; omega) (by exact HKB.out.size) _ rfl ?_
  intro gg cap wA hownA hgrow hat hlt
  have HKA : Hid (Keep (W3.heap.size ≤ ·) W3 wA) := HKB.out.grown hgrow (fun k hk _ => (World.ownsRow.lt (ownsRow_keep HPX.out HkB.out (fun _ _ h => h)) k hk).1)
  have HGA := Lib.hid hgrow
  have HOA : Hid (OwnToks wA W3.heap.size (.slice (some ⟨gg, 0, none⟩) (na + n2) cap) (a ++ Rt.toks.map bare)) := by
    show World.ownsRow _ _ _ _ _ _ _
    have e1 : (a ++ Rt.toks.map bare).length = na + n2 := by rw [List.length_append, List.length_map, ← NA.out, ← N2.out]
    have e2 : toksC (a ++ Rt.toks.map bare) = toksC a ++ toksC (Rt.toks.map bare) := by unfold toksC; rw [List.flatMap_append]
    rw [e1, e2]; exact hownA
  clear hownA hgrow hat
  try dsimp only
  refine hK.out _ _ (HKA.out.cell HZ0.out HNZ.out) (fun hHeld => ?_)
  clear hK K
  try simp only [Act.put, List.getElem_toArray, List.getElem_cons_zero, List.getElem_cons_succ, List.setIfInBounds_toArray, List.set_cons_zero, List.set_cons_succ]
  refine wpAnyH_ready (rs := [13]) (by kernel_rfl) (by simp) ?_
  refine AllReadyH.cons rfl (fun K hK => ?_) AllReadyH.nil
  go_simp
  refine (refSame_any AB (some ⟨gg, 0, none⟩) (na + n2) cB cap wy.drew.heap.size W3.heap.size (a ++ Rt.toks.map bare) wA (ownsRow_keep HOB.out ((Keep.refl (fun k => some k = (Value.slice Ax na cx).ownBlock) wB).grown HGA.out (fun k hk _ => hk.symm)) (fun k hk h => by have h1 := (World.ownsRow.lt HOB.out k hk).1; have h2 := (World.ownsRow.lt HPX.out k h.symm).2; exact absurd h2 (Nat.not_lt.2 h1))) HOA.out (by rw [List.length_append, List.length_map, ← NA.out, ← N2.out]) (by have := HNA1.out; omega)).mono ?_
  rintro e8 wS ⟨rfl, qd, rfl⟩
  try dsimp only
  refine hK.out _ _ (HKA.out.cell HZ0.out HNZ.out) (fun hHeld => ?_)
  clear hK K
  try simp only [Act.put, List.getElem_toArray, List.getElem_cons_zero, List.getElem_cons_succ, List.setIfInBounds_toArray, List.set_cons_zero, List.set_cons_succ]
  refine wpAnyH_take (i := 14) (v := ?_) rfl (by kernel_rfl) (by kernel_rfl) (by kernel_rfl) (fun _ _ _ h => h) (Or.inl ⟨by kernel_rfl, ?_⟩) (by assumption) ?_
  rotate_left
  · (intro w hSw; (try dsimp only at hSw); go_simp; all_goals (with_reducible rfl))
  try simp only [Act.put, List.getElem_toArray, List.getElem_cons_zero, List.getElem_cons_succ, List.setIfInBounds_toArray, List.set_cons_zero, List.set_cons_succ]
  refine wpAnyH_take (i := 15) (v := ?_) rfl (by kernel_rfl) (by kernel_rfl) (by kernel_rfl) (fun _ _ _ h => h) (Or.inl ⟨by kernel_rfl, ?_⟩) (by assumption) ?_
  rotate_left
  · (intro w hSw; (try dsimp only at hSw); go_simp; all_goals (with_reducible rfl))
  try simp only [Act.put, List.getElem_toArray, List.getElem_cons_zero, List.getElem_cons_succ, List.setIfInBounds_toArray, List.set_cons_zero, List.set_cons_succ]
  have HBA : Hid (Below w.heap.size w (World.drewN wA qd)) := HB03.out.trans ((HKA.out.drewN qd).below HB03.out.size (fun k hk => Nat.le_trans HB03.out.size hk))
  refine wpAnyH_ready (rs := [16]) (by kernel_rfl) (by simp) ?_
  refine AllReadyH.cons rfl (fun K hK => ?_) AllReadyH.nil
  go_simp
  refine (awake_any _ ((HGL.out.below HBA.out (Nat.le_refl _)).mono HBA.out.size)).mono ?_
  rintro e9 wZ ⟨rfl, hbZ⟩
  have hzZ : wZ.cell? ⟨w3.heap.size, 0, none⟩ = some (.int .i64 0) := (hbZ.cell (World.block_lt_of_cell? _ _ ((HKA.out.drewN qd).cell HZ0.out HNZ.out))).trans ((HKA.out.drewN qd).cell HZ0.out HNZ.out)
  try dsimp only
  refine hK.out _ _ hzZ (fun hHeld => ?_)
  clear hK K
  try simp only [Act.put, List.getElem_toArray, List.getElem_cons_zero, List.getElem_cons_succ, List.setIfInBounds_toArray, List.set_cons_zero, List.set_cons_succ]
  refine wpAnyH_take (i := 17) (v := ?_) rfl (by kernel_rfl) (by kernel_rfl) (by kernel_rfl) (fun _ _ _ h => h) (Or.inl ⟨by kernel_rfl, ?_⟩) (by assumption) ?_
  rotate_left
  · (intro w hSw; (try dsimp only at hSw); go_simp; all_goals (with_reducible rfl))
  try simp only [Act.put, List.getElem_toArray, List.getElem_cons_zero, List.getElem_cons_succ, List.setIfInBounds_toArray, List.set_cons_zero, List.set_cons_succ]
  refine wpAnyH_take (i := 18) (v := ?_) rfl (by kernel_rfl) (by kernel_rfl) (by kernel_rfl) (fun _ _ _ h => h) (Or.inl ⟨by kernel_rfl, ?_⟩) (by assumption) ?_
  rotate_left
  · (intro w hSw; (try dsimp only at hSw); go_simp; all_goals (with_reducible rfl))
  try simp only [Act.put, List.getElem_toArray, List.getElem_cons_zero, List.getElem_cons_succ, List.setIfInBounds_toArray, List.set_cons_zero, List.set_cons_succ]
  refine wpAnyH_done (by kernel_rfl) ?_ _
  have HBZ := Lib.hid (HBA.out.trans (hbZ.mono HBA.out.size))
  clear hbZ hzZ
  go_wp2_with fail
  go_ret
  exact ⟨rfl, HBZ.out⟩
end Go.Proofs.YtcdmkmbbliaefaaGreatDoor
