/- toks.Of of the end; exprpas.Parse. -/
import Derived.Test.YtgmmjhelcpgakaaGreatDoorGAl
import Derived.Test.YtgmmjhelcpgakaaGreatDoorGAk
import Derived.Test.YtgmmjhelcpgakaaGreatDoorGAc
import Derived.Test.YtgmmjhelcpgakaaGreatDoorGAs
namespace Go.Proofs.YtgmmjhelcpgakaaGreatDoor
open Go.RowKit
set_option linter.unusedVariables false
set_option linter.unusedSimpArgs false

/-- A text without faults has tokens, and no name of it a dollar. -/
theorem lexAll_ok (s : ByteArray) (h0 : (lexAll s).code = 0) : 0 < (lexAll s).toks.length ∧ NoDol (lexAll s).toks := by
  have hs : s.size ≤ 65536 := by
    rcases Nat.lt_or_ge 65536 s.size with h | h
    · unfold lexAll at h0; rw [if_pos h] at h0; cases h0
    · exact h
  have ls := lexAll_bare s hs
  obtain ⟨ts, e1, e2, e3⟩ := lexB_good (s.size + 1) (bs s) 0 [] (by rw [bs_len]; omega) (by rw [← ls.code]; exact h0)
  rw [List.nil_append, ← ls.toks] at e1
  constructor
  · have := congrArg List.length e1
    rw [List.length_map, List.length_append, List.length_singleton] at this
    omega
  · intro t ht
    constructor
    · intro hk
      have hg := lexAll_good s t ht (.inl hk)
      have hn : ∀ c ∈ bs t.text, c ≠ 36 := by
        intro c hc he
        have := (hg.all c hc).1
        rw [he] at this
        exact absurd this (by decide)
      cases hc : (bs t.text).contains 36 with
      | false => rfl
      | true => rw [List.contains_iff_mem] at hc; exact absurd rfl (hn 36 hc)
    · have hm : bare t ∈ ts ++ [bareEnd] := by rw [← e1]; exact List.mem_map.2 ⟨t, ht, rfl⟩
      have htx : (bare t).text = t.text := rfl
      rcases List.mem_append.1 hm with hm | hm
      · obtain ⟨F, ⟨_, hk⟩, hF⟩ := e2 _ hm
        have hsz := hk.sz
        have h1 : t.text = ⟨F.text.toArray⟩ := by rw [← htx, hF]; rfl
        rw [h1]
        show F.text.toArray.size ≤ _
        simp; omega
      · rw [List.mem_singleton] at hm
        have h1 : t.text = ⟨#[]⟩ := by rw [← htx, hm]; rfl
        rw [h1]; decide
set_option maxRecDepth 100000 in
set_option maxHeartbeats 2000000 in
theorem rof0_any (b g c : Nat) (l : List TokL) (st : RS) (w : World) (h : Rdr w b g c l st) :
    Calls Tryz.prog 21 #[.pointer (some ⟨b, 0, none⟩), .int .i64 0] w fun e w' => e = .returned (.tuple #[.agg (tokA (ofT l st 0)), .bool (isOf l st 0)]) ∧ (isOf l st 0 = false → Rdr w' b g c l st) ∧ Keep (· = b) w w' := by
  have hu26 := Tryz.underlying28
  have hu38 := Tryz.underlying50
  obtain ⟨t, ht⟩ : ∃ t, t = tk l st.at_ := ⟨_, rfl⟩
  have HL : Hid (∀ W, Keep (fun _ => False) w W → Calls Tryz.prog 49 #[.pointer (some ⟨b, 0, none⟩), .int .i64 0] W fun e w' => e = .returned (.agg #[.int .i64 t.kind, .string t.text, .int .i64 t.n, .bool t.same, .int .i64 t.pos.1, .int .i64 t.pos.2.1, .int .i64 t.pos.2.2]) ∧ Keep (fun _ => False) W w') := fun W hk => look0_any b g c l st W (h.keepF hk) t ht
  have HOK : Hid (∀ W, Keep (fun _ => False) w W → Calls Tryz.prog 50 #[.pointer (some ⟨b, 0, none⟩)] W fun e w' => e = .returned (.bool (decide (st.code = 0))) ∧ w' = W) := fun W hk => rok_any b g c l st W (h.keepF hk)
  have HH := Lib.hid h
  have ek : ((t.kind : Int) == (0 : Int)) = (t.kind == 0) := by rw [Bool.eq_iff_iff]; simp
  have ek2 : ((t.kind : Int) != (0 : Int)) = !(t.kind == 0) := by rw [← ek]; rfl
  unfold ofT
  cases hp : isOf l st 0 with
  | false =>
    rw [if_neg (by decide)]
    have hcases : decide (st.code = 0) = false ∨ (decide (st.code = 0) = true ∧ (t.kind == 0) = false) := by
      unfold isOf at hp
      rw [← ht, Bool.and_eq_false_iff] at hp
      by_cases h0 : st.code = 0
      · right
        refine ⟨by simpa using h0, ?_⟩
        rcases hp with hp | hp
        · simp [h0] at hp
        · exact hp
      · left; simpa using h0
    clear hp ht h ek
    rcases hcases with hc | ⟨hc, hkk⟩
    all_goals rw [hc] at HOK
    · clear hc ek2
      go_enter Tryz.func21, Tryz.ntmps21
      go_wp2_with fail
      obtain ⟨W0, hWW0⟩ : ∃ W0, W0 = w.alloc (.cells #[.int .i64 0, .string ⟨#[]⟩, .int .i64 0, .bool false, .int .i64 0, .int .i64 0, .int .i64 0] 50) := ⟨_, rfl⟩
      rw [← hWW0]
      have HBW0 := Lib.hid (show Blk W0 w.heap.size #[.int .i64 0, .string ⟨#[]⟩, .int .i64 0, .bool false, .int .i64 0, .int .i64 0, .int .i64 0] 50 by rw [hWW0]; exact Blk.new _ _ _)
      have HAW0 := Lib.hid (show Keep (fun _ => False) w W0 by rw [hWW0]; exact (Keep.refl _ _).alloc _)
      have HZW0 := Lib.hid (show W0.heap.size = w.heap.size + 1 by rw [hWW0]; simp)
      clear hWW0
      refine (HL.out _ HAW0.out).mono ?_
      rintro e w1 ⟨rfl, hk1⟩
      have HK1 := Lib.hid (HAW0.out.trans hk1)
      have HBZ := Lib.hid (hk1.blk HBW0.out (fun h => h))
      clear hk1
      go_wp2_with fail
      obtain ⟨W1, hWW1⟩ : ∃ W1, W1 = w1.alloc (.cells #[.int .i64 t.kind, .string t.text, .int .i64 t.n, .bool t.same, .int .i64 t.pos.1, .int .i64 t.pos.2.1, .int .i64 t.pos.2.2] 50) := ⟨_, rfl⟩
      rw [← hWW1]
      have HBW1 := Lib.hid (show Blk W1 w1.heap.size #[.int .i64 t.kind, .string t.text, .int .i64 t.n, .bool t.same, .int .i64 t.pos.1, .int .i64 t.pos.2.1, .int .i64 t.pos.2.2] 50 by rw [hWW1]; exact Blk.new _ _ _)
      have HAW1 := Lib.hid (show Keep (fun _ => False) w1 W1 by rw [hWW1]; exact (Keep.refl _ _).alloc _)
      have HZW1 := Lib.hid (show W1.heap.size = w1.heap.size + 1 by rw [hWW1]; simp)
      clear hWW1
      refine (HOK.out _ (HK1.out.trans HAW1.out)).mono ?_
      rintro e w2 ⟨rfl, rfl⟩
      have a7 := (HAW1.out.blk HBZ.out (fun h => h)).all7
      have b7 := HBW1.out.all7
      go_wp2_with fail
      have hkf := Keep.put7 (HK1.out.trans HAW1.out) (.inl (Nat.le_refl _)) (.int .i64 0) (.string ⟨#[]⟩) (.int .i64 0) (.bool false) (.int .i64 0) (.int .i64 0) (.int .i64 0)
      refine bodyPost_ret (v := .tuple #[.agg (tokA zTok), .bool false]) (by simp [tokA, zTok, results, Tryz.results21, go_sem, a7]) rfl ⟨rfl, fun _ => HH.out.keepF hkf, hkf.mono (fun _ _ h => h.elim)⟩
    · rw [hkk] at ek2
      clear hc hkk
      go_enter Tryz.func21, Tryz.ntmps21
      go_wp2_with fail
      obtain ⟨W0, hWW0⟩ : ∃ W0, W0 = w.alloc (.cells #[.int .i64 0, .string ⟨#[]⟩, .int .i64 0, .bool false, .int .i64 0, .int .i64 0, .int .i64 0] 50) := ⟨_, rfl⟩
      rw [← hWW0]
      have HBW0 := Lib.hid (show Blk W0 w.heap.size #[.int .i64 0, .string ⟨#[]⟩, .int .i64 0, .bool false, .int .i64 0, .int .i64 0, .int .i64 0] 50 by rw [hWW0]; exact Blk.new _ _ _)
      have HAW0 := Lib.hid (show Keep (fun _ => False) w W0 by rw [hWW0]; exact (Keep.refl _ _).alloc _)
      have HZW0 := Lib.hid (show W0.heap.size = w.heap.size + 1 by rw [hWW0]; simp)
      clear hWW0
      refine (HL.out _ HAW0.out).mono ?_
      rintro e w1 ⟨rfl, hk1⟩
      have HK1 := Lib.hid (HAW0.out.trans hk1)
      have HBZ := Lib.hid (hk1.blk HBW0.out (fun h => h))
      clear hk1
      go_wp2_with fail
      obtain ⟨W1, hWW1⟩ : ∃ W1, W1 = w1.alloc (.cells #[.int .i64 t.kind, .string t.text, .int .i64 t.n, .bool t.same, .int .i64 t.pos.1, .int .i64 t.pos.2.1, .int .i64 t.pos.2.2] 50) := ⟨_, rfl⟩
      rw [← hWW1]
      have HBW1 := Lib.hid (show Blk W1 w1.heap.size #[.int .i64 t.kind, .string t.text, .int .i64 t.n, .bool t.same, .int .i64 t.pos.1, .int .i64 t.pos.2.1, .int .i64 t.pos.2.2] 50 by rw [hWW1]; exact Blk.new _ _ _)
      have HAW1 := Lib.hid (show Keep (fun _ => False) w1 W1 by rw [hWW1]; exact (Keep.refl _ _).alloc _)
      have HZW1 := Lib.hid (show W1.heap.size = w1.heap.size + 1 by rw [hWW1]; simp)
      clear hWW1
      refine (HOK.out _ (HK1.out.trans HAW1.out)).mono ?_
      rintro e w2 ⟨rfl, rfl⟩
      have a7 := (HAW1.out.blk HBZ.out (fun h => h)).all7
      have b7 := HBW1.out.all7
      go_wp2_with fail
      have hkf := Keep.put7 (HK1.out.trans HAW1.out) (.inl (Nat.le_refl _)) (.int .i64 0) (.string ⟨#[]⟩) (.int .i64 0) (.bool false) (.int .i64 0) (.int .i64 0) (.int .i64 0)
      refine bodyPost_ret (v := .tuple #[.agg (tokA zTok), .bool false]) (by simp [tokA, zTok, results, Tryz.results21, go_sem, a7]) rfl ⟨rfl, fun _ => HH.out.keepF hkf, hkf.mono (fun _ _ h => h.elim)⟩
  | true =>
    rw [if_pos rfl]
    have hat := h.at_
    have hc : st.code = 0 := by unfold isOf at hp; simp only [Bool.and_eq_true, beq_iff_eq] at hp; exact hp.1
    have hbig := h.big
    have hkk : (t.kind == 0) = true := by
      unfold isOf at hp
      rw [← ht, Bool.and_eq_true] at hp; exact hp.2
    rw [hkk] at ek2
    rw [decide_eq_true hc] at HOK
    rw [← ht]
    clear hp ht h hkk ek hc
    · skip
      go_enter Tryz.func21, Tryz.ntmps21
      go_wp2_with fail
      obtain ⟨W0, hWW0⟩ : ∃ W0, W0 = w.alloc (.cells #[.int .i64 0, .string ⟨#[]⟩, .int .i64 0, .bool false, .int .i64 0, .int .i64 0, .int .i64 0] 50) := ⟨_, rfl⟩
      rw [← hWW0]
      have HBW0 := Lib.hid (show Blk W0 w.heap.size #[.int .i64 0, .string ⟨#[]⟩, .int .i64 0, .bool false, .int .i64 0, .int .i64 0, .int .i64 0] 50 by rw [hWW0]; exact Blk.new _ _ _)
      have HAW0 := Lib.hid (show Keep (fun _ => False) w W0 by rw [hWW0]; exact (Keep.refl _ _).alloc _)
      have HZW0 := Lib.hid (show W0.heap.size = w.heap.size + 1 by rw [hWW0]; simp)
      clear hWW0
      refine (HL.out _ HAW0.out).mono ?_
      rintro e w1 ⟨rfl, hk1⟩
      have HK1 := Lib.hid (HAW0.out.trans hk1)
      have HBZ := Lib.hid (hk1.blk HBW0.out (fun h => h))
      clear hk1
      go_wp2_with fail
      obtain ⟨W1, hWW1⟩ : ∃ W1, W1 = w1.alloc (.cells #[.int .i64 t.kind, .string t.text, .int .i64 t.n, .bool t.same, .int .i64 t.pos.1, .int .i64 t.pos.2.1, .int .i64 t.pos.2.2] 50) := ⟨_, rfl⟩
      rw [← hWW1]
      have HBW1 := Lib.hid (show Blk W1 w1.heap.size #[.int .i64 t.kind, .string t.text, .int .i64 t.n, .bool t.same, .int .i64 t.pos.1, .int .i64 t.pos.2.1, .int .i64 t.pos.2.2] 50 by rw [hWW1]; exact Blk.new _ _ _)
      have HAW1 := Lib.hid (show Keep (fun _ => False) w1 W1 by rw [hWW1]; exact (Keep.refl _ _).alloc _)
      have HZW1 := Lib.hid (show W1.heap.size = w1.heap.size + 1 by rw [hWW1]; simp)
      clear hWW1
      refine (HOK.out _ (HK1.out.trans HAW1.out)).mono ?_
      rintro e w2 ⟨rfl, rfl⟩
      have a7 := (HAW1.out.blk HBZ.out (fun h => h)).all7
      have b7 := HBW1.out.all7
      have HR2 := HH.out.keepF (HK1.out.trans HAW1.out)
      have r6 := HR2.all6
      have f1 := HR2.blk.free 1
      have hbne : b ≠ w.heap.size := Nat.ne_of_lt HH.out.blk.lt
      have hbne2 : b ≠ w1.heap.size := Nat.ne_of_lt (Nat.lt_of_lt_of_le HH.out.blk.lt HK1.out.size)
      have HKU := Lib.hid (((HK1.out.trans HAW1.out).mono (Q := (· = b)) (fun _ _ h => h.elim)).set1 1 (.int .i64 ((st.at_ : Int) + 1)))
      clear HR2
      go_wp2_with fail
      have hgne : g ≠ w.heap.size := Nat.ne_of_lt HH.out.glt
      refine bodyPost_ret (v := .tuple #[.agg (tokA t), .bool true]) (by simp [tokA, results, Tryz.results21, go_sem, a7, hbne, Ne.symm hbne]) rfl ⟨rfl, (fun h => absurd h (by decide)), Keep.put7 HKU.out (.inl (Nat.le_refl _)) _ _ _ _ _ _ _⟩
set_option maxRecDepth 100000 in
set_option maxHeartbeats 4000000 in
theorem exparse_any (l : List TokL) (g c : Nat) (i : Nat) (w : World) (ht : TokR w g l) (hpos : 0 < l.length) (hbig : l.length ≤ 1000000) (hi : i ≤ l.length) (hdol : NoDol l) :
    Calls Tryz.prog 20 #[.slice (some ⟨g, 0, none⟩) l.length c, .int .i64 i] w (ParsePost (parseAt l i) i w) := by
  have hu := Tryz.underlying25
  have hu28 := Tryz.underlying30
  have HR := Lib.hid (fun (W : World) (hk : Keep (fun _ => False) w W) => read_any l g c i W (ht.keep hk (fun h => h)) hpos hbig hi hdol)
  clear ht hdol
  obtain ⟨r, hr⟩ : ∃ r, r = parseAt l i := ⟨_, rfl⟩
  rw [← hr] at HR ⊢
  clear hr
  go_enter Tryz.func20, Tryz.ntmps20
  go_upto_region 1 with fail
  obtain ⟨W0, hWW0⟩ : ∃ W0, W0 = w.alloc (.cells #[.int .i64 0, .int .i64 0, .string ⟨#[]⟩, .string ⟨#[]⟩, .slice none 0 0] 25) := ⟨_, rfl⟩
  rw [← hWW0]
  have HBW0 := Lib.hid (show Blk W0 w.heap.size #[.int .i64 0, .int .i64 0, .string ⟨#[]⟩, .string ⟨#[]⟩, .slice none 0 0] 25 by rw [hWW0]; exact Blk.new _ _ _)
  have HAW0 := Lib.hid (show Keep (fun _ => False) w W0 by rw [hWW0]; exact (Keep.refl _ _).alloc _)
  have HZW0 := Lib.hid (show W0.heap.size = w.heap.size + 1 by rw [hWW0]; simp)
  clear hWW0
  obtain ⟨W1, hWW1⟩ : ∃ W1, W1 = W0.alloc (.cells #[.int .i64 0, .int .i64 0, .int .i64 0, .int .i64 0] 30) := ⟨_, rfl⟩
  rw [← hWW1]
  have HBW1 := Lib.hid (show Blk W1 W0.heap.size #[.int .i64 0, .int .i64 0, .int .i64 0, .int .i64 0] 30 by rw [hWW1]; exact Blk.new _ _ _)
  have HAW1 := Lib.hid (show Keep (fun _ => False) W0 W1 by rw [hWW1]; exact (Keep.refl _ _).alloc _)
  have HZW1 := Lib.hid (show W1.heap.size = W0.heap.size + 1 by rw [hWW1]; simp)
  clear hWW1
  have hbw1 := HBW1.out
  rw [HZW0.out] at hbw1
  obtain ⟨bX, hbX⟩ : ∃ bX, bX = w.heap.size + 1 := ⟨_, rfl⟩
  have hRX : w.heap.size < bX := by rw [hbX]; omega
  have hRX2 : bX < w.heap.size + 2 := by rw [hbX]; omega
  rw [← hbX] at hbw1 ⊢
  clear HBW1
  have HBW1 := Lib.hid hbw1
  have hsz1 : w.heap.size + 2 = W1.heap.size := by rw [HZW1.out, HZW0.out]
  have HS1 := Lib.hid hsz1
  clear hbw1 hbX hsz1
  have hxr : w.heap.size ≠ bX := by omega
  have HKa := Lib.hid (HAW0.out.trans HAW1.out)
  have HBx := Lib.hid (HAW1.out.blk HBW0.out (fun h => h))
  clear HBW0 HZW0 HZW1
  go_wp2_with fail
  refine (HR.out W1 HKa.out).mono ?_
  rintro en w2 ⟨A, cc, rfl, hrow, hk⟩
  have HROW := Lib.hid hrow
  have e5 := (hk.blk HBx.out (fun h => h)).all5
  have d4 := (hk.blk HBW1.out (fun h => h)).all4
  have hlt := (hk.blk HBx.out (fun h => h)).lt
  have hlt2 := (hk.blk HBW1.out (fun h => h)).lt
  have HK := Lib.hid (HKa.out.trans hk)
  clear hrow hk HR
  unfold exA
  go_wp2_with fail
  refine bodyPost_ret (v := .tuple #[.agg (exA (resE r) A cc), .int .i64 (resI i r), .agg #[.int .i64 (resC r), .int .i64 (resP r).1, .int .i64 (resP r).2.1, .int .i64 (resP r).2.2]]) (by simp [exA, results, Tryz.results20, go_sem, e5, d4, hxr, Ne.symm hxr]) rfl ⟨A, cc, rfl, ?_, ?_⟩
  · have hr0 : RdRow (fun k => W1.heap.size ≤ k) w2 (resE r).list A := HROW.out
    have hs1 := HS1.out
    exact (((hr0.keep (P := (· = w.heap.size)) (Keep.put5 (P := (· = w.heap.size)) (b := w.heap.size) (Keep.refl _ _) (.inr rfl) _ _ _ _ _) (fun k h1 h2 => by omega)).keep (P := (· = bX)) (Keep.put4 (P := (· = bX)) (b := bX) (Keep.refl _ _) (.inr rfl) _ _ _ _) (fun k h1 h2 => by omega))).mono (fun k _ h => by show w.heap.size ≤ k; omega)
  · exact Keep.put4 (Keep.put5 HK.out (.inl (Nat.le_refl _)) _ _ _ _ _) (.inl (by omega)) _ _ _ _
end Go.Proofs.YtgmmjhelcpgakaaGreatDoor
/- exprpas.Read. -/
namespace Go.Proofs.YtgmmjhelcpgakaaGreatDoor
open Go.RowKit
set_option linter.unusedVariables false
set_option linter.unusedSimpArgs false

theorem lexAll_small (s : ByteArray) (h0 : (lexAll s).code = 0) : (lexAll s).toks.length ≤ 65537 := by
  have hs : s.size ≤ 65536 := by
    rcases Nat.lt_or_ge 65536 s.size with h | h
    · unfold lexAll at h0; rw [if_pos h] at h0; cases h0
    · exact h
  have := lexAll_count s
  omega
def RdPost (q : Ex × Nat × Pos3) (w : World) (en : Ending) (w' : World) : Prop :=
  ∃ A cc, en = .returned (.tuple #[.agg (exA q.1 A cc), .agg (diagA q.2.1 q.2.2)]) ∧ RdRow (w.heap.size ≤ ·) w' q.1.list A ∧ Keep (fun _ => False) w w'
theorem boundAt_ok (l : List TokL) (i : Nat) (e : Ex) (j : Nat) : boundAt l i (.ok e j) = if 512 < longE e then .bad 3 (tk l i).pos else if 48 < deepE e then .bad 4 (tk l i).pos else .ok e j := rfl
theorem parse_small {l : List TokL} {i : Nat} (hi : i ≤ l.length) {e : Ex} {j : Nat} (h : parseAt l i = .ok e j) : levAt l i = .ok e j ∧ j ≤ l.length := by
  unfold parseAt at h
  cases hr : levAt l i with
  | bad c p => rw [hr] at h; cases h
  | ok e' j' =>
    rw [hr, boundAt_ok] at h
    by_cases h1 : 512 < longE e'
    · rw [if_pos h1] at h; cases h
    rw [if_neg h1] at h
    by_cases h2 : 48 < deepE e'
    · rw [if_pos h2] at h; cases h
    rw [if_neg h2] at h
    injection h with h3 h4
    subst h3 h4
    exact ⟨rfl, (levAt_in l i hi _ _ hr).2⟩
theorem parse_bad {l : List TokL} {i : Nat} (hi : i ≤ l.length) {c : Nat} {p : Pos3} (h : parseAt l i = .bad c p) : c ≠ 0 := by
  unfold parseAt at h
  cases hr : levAt l i with
  | bad c' p' =>
    rw [hr, show boundAt l i (.bad c' p') = .bad c' p' from rfl] at h
    have h2 := levAt_rm l i hi
    rw [hr] at h2
    have := rm_bad h2
    injection h with h1 _
    rw [← h1]; exact this
  | ok e' j' =>
    rw [hr, boundAt_ok] at h
    by_cases h1 : 512 < longE e'
    · rw [if_pos h1] at h; injection h with h _; rw [← h]; decide
    rw [if_neg h1] at h
    by_cases h2 : 48 < deepE e'
    · rw [if_pos h2] at h; injection h with h _; rw [← h]; decide
    rw [if_neg h2] at h
    cases h
set_option maxRecDepth 100000 in
set_option maxHeartbeats 8000000 in
theorem exread_any (s : ByteArray) (w : World) (hs : s.size ≤ 140737488351232) (hg : Glob w.heap.size w) :
    Calls Tryz.prog 10 #[.string s] w (RdPost (readE s) w) := by
  have hu := Tryz.underlying25
  have hu26 := Tryz.underlying28
  have hu28 := Tryz.underlying30
  have hu38 := Tryz.underlying50
  have hu57 := Tryz.underlying57
  have hu59 := Tryz.underlying59
  have HA : Hid (∀ W, Keep (fun _ => False) w W → Calls Tryz.prog 19 #[.string s] W (AllPost W (lexAll s))) := fun W hk => all_any s W hs ((hg.keep hk (Nat.le_refl _) (fun _ h => h.elim)).mono hk.size)
  have HOKL := Lib.hid (lexAll_ok s)
  have HSM := Lib.hid (lexAll_small s)
  have HQ0 : Hid (readE s = if (lexAll s).code ≠ 0 then (exNil, (lexAll s).code, (lexAll s).pos) else match parseAt (lexAll s).toks 0 with
      | .bad c p => (exNil, c, p)
      | .ok e j => if (tk (lexAll s).toks j).kind ≠ 0 then (exNil, wrC (lexAll s).toks j, (tk (lexAll s).toks j).pos) else (e, 0, (0, 0, 0))) := rfl
  obtain ⟨q, hq⟩ : ∃ q, q = readE s := ⟨_, rfl⟩
  have hq0 := HQ0.out
  rw [← hq] at hq0 ⊢
  obtain ⟨R, hR⟩ : ∃ R, R = lexAll s := ⟨_, rfl⟩
  rw [← hR] at HA HOKL HSM hq0
  obtain ⟨toks, code, pos⟩ := R
  simp only [AllPost, diagV] at HA HOKL HSM hq0
  have HQ0 := Lib.hid hq0
  clear hq hR hg hq0
  go_enter Tryz.func10, Tryz.ntmps10
  go_upto_region 1 with fail
  obtain ⟨W0, hWW0⟩ : ∃ W0, W0 = w.alloc (.cells #[.int .i64 0, .int .i64 0, .string ⟨#[]⟩, .string ⟨#[]⟩, .slice none 0 0] 25) := ⟨_, rfl⟩
  rw [← hWW0]
  have HBW0 := Lib.hid (show Blk W0 w.heap.size #[.int .i64 0, .int .i64 0, .string ⟨#[]⟩, .string ⟨#[]⟩, .slice none 0 0] 25 by rw [hWW0]; exact Blk.new _ _ _)
  have HAW0 := Lib.hid (show Keep (fun _ => False) w W0 by rw [hWW0]; exact (Keep.refl _ _).alloc _)
  have HZW0 := Lib.hid (show W0.heap.size = w.heap.size + 1 by rw [hWW0]; simp)
  clear hWW0
  obtain ⟨W1, hWW1⟩ : ∃ W1, W1 = W0.alloc (.cells #[.int .i64 0, .int .i64 0, .int .i64 0, .int .i64 0] 30) := ⟨_, rfl⟩
  rw [← hWW1]
  have HBW1 := Lib.hid (show Blk W1 W0.heap.size #[.int .i64 0, .int .i64 0, .int .i64 0, .int .i64 0] 30 by rw [hWW1]; exact Blk.new _ _ _)
  have HAW1 := Lib.hid (show Keep (fun _ => False) W0 W1 by rw [hWW1]; exact (Keep.refl _ _).alloc _)
  have HZW1 := Lib.hid (show W1.heap.size = W0.heap.size + 1 by rw [hWW1]; simp)
  clear hWW1
  have hbw1 := HBW1.out
  rw [HZW0.out] at hbw1
  obtain ⟨bX, hbX⟩ : ∃ bX, bX = w.heap.size + 1 := ⟨_, rfl⟩
  have hRX : w.heap.size < bX := by rw [hbX]; omega
  have hRX2 : bX < w.heap.size + 2 := by rw [hbX]; omega
  rw [← hbX] at hbw1 ⊢
  clear HBW1
  have HBd1 := Lib.hid hbw1
  have hs1 : bX < W1.heap.size := by rw [HZW1.out, HZW0.out]; omega
  clear hbw1 hbX
  have hxr : w.heap.size ≠ bX := by omega
  have HK1 := Lib.hid (HAW0.out.trans HAW1.out)
  have HBe1 := Lib.hid (HAW1.out.blk HBW0.out (fun h => h))
  clear HBW0 HZW0 HZW1
  go_wp2_with fail
  refine (HA.out W1 HK1.out).mono ?_
  rintro en w2 ⟨v, rfl, ho, hb⟩
  obtain ⟨A1, c1, rfl⟩ := ho.form
  have hk2 := Keep.of_below (P := fun _ => False) hb
  dsimp only [diagV] at ho ⊢
  have HO2 := Lib.hid ho
  have HK2 := Lib.hid (HK1.out.trans hk2)
  have HBe2 := Lib.hid (hk2.blk HBe1.out (fun h => h))
  have HBd2 := Lib.hid (hk2.blk HBd1.out (fun h => h))
  have hs2 : W1.heap.size ≤ w2.heap.size := hk2.size
  clear hk2 hb ho HA
  go_upto_region 2 with fail
  obtain ⟨W3, hWW3⟩ : ∃ W3, W3 = w2.alloc (.cells #[.int .i64 code, .int .i64 pos.1, .int .i64 pos.2.1, .int .i64 pos.2.2] 30) := ⟨_, rfl⟩
  rw [← hWW3]
  have HBW3 := Lib.hid (show Blk W3 w2.heap.size #[.int .i64 code, .int .i64 pos.1, .int .i64 pos.2.1, .int .i64 pos.2.2] 30 by rw [hWW3]; exact Blk.new _ _ _)
  have HAW3 := Lib.hid (show Keep (fun _ => False) w2 W3 by rw [hWW3]; exact (Keep.refl _ _).alloc _)
  have HZW3 := Lib.hid (show W3.heap.size = w2.heap.size + 1 by rw [hWW3]; simp)
  clear hWW3
  obtain ⟨bD, hbD⟩ : ∃ bD, bD = w2.heap.size := ⟨_, rfl⟩
  have hXD : bX < bD := by omega
  have hD2 : w2.heap.size ≤ bD := by omega
  have hD3 : bD ≤ w2.heap.size := by omega
  have hs3 : bD < W3.heap.size := by rw [HZW3.out]; omega
  rw [← hbD] at HBW3 ⊢
  have HK3 := Lib.hid (HK2.out.trans HAW3.out)
  have HBe3 := Lib.hid (HAW3.out.blk HBe2.out (fun h => h))
  have HBd3 := Lib.hid (HAW3.out.blk HBd2.out (fun h => h))
  have d4 := HBW3.out.all4
  clear hbD
  by_cases h0 : code = 0
  · have t0 : ((code : Int) != 0) = false := by rw [h0]; rfl
    have hpos : 0 < toks.length := (HOKL.out h0).1
    have hdol : NoDol toks := (HOKL.out h0).2
    have hsm : toks.length ≤ 65537 := HSM.out h0
    obtain ⟨g, c1', hv, hg1, hg2⟩ := HO2.out.shape hpos
    obtain ⟨rfl, rfl⟩ : A1 = some ⟨g, 0, none⟩ ∧ c1 = c1' := by injection hv with h1 _ h2; exact ⟨h1, h2⟩
    have HTR := Lib.hid (TokR.of_own HO2.out)
    have hglt : g < W3.heap.size := by omega
    have hbg : g ≠ bD := by omega
    have hq := HQ0.out
    rw [if_neg (by simpa using h0)] at hq
    have HP0 := exparse_any toks g c1 0 W3 (HTR.out.keep HAW3.out (fun h => h)) hpos (by omega) (Nat.zero_le _) hdol
    rw [show ((0 : Nat) : Int) = 0 from rfl] at HP0
    have HPS := Lib.hid (fun e j (h : parseAt toks 0 = .ok e j) => (parse_small (Nat.zero_le _) h).2)
    have HPB := Lib.hid (fun c p (h : parseAt toks 0 = .bad c p) => parse_bad (Nat.zero_le _) h)
    obtain ⟨r, hr⟩ : ∃ r, r = parseAt toks 0 := ⟨_, rfl⟩
    rw [← hr] at hq HP0 HPS HPB
    have HQ := Lib.hid hq
    have HP := Lib.hid HP0
    have HPOS := Lib.hid hpos
    clear hv hr hq HP0 HQ0 h0 hdol HOKL HSM hpos hg1 hg2
    go_wp2_with fail
    refine HP.out.mono ?_
    rintro en w4 ⟨A2, cc2, rfl, hrow, hk4⟩
    have HROW4 := Lib.hid (hrow.mono (S' := fun k => W3.heap.size ≤ k ∧ k < w4.heap.size) fun k h1 h2 => ⟨h2, h1⟩)
    have HK4 := Lib.hid (HK3.out.trans hk4)
    have HTR4 := Lib.hid (((HTR.out.keep HAW3.out (fun h => h)).keep hk4 (fun h => h)))
    have HBe4 := Lib.hid (hk4.blk HBe3.out (fun h => h))
    have HBd4 := Lib.hid (hk4.blk HBd3.out (fun h => h))
    have HBD4 := Lib.hid (hk4.blk HBW3.out (fun h => h))
    have hs4 : W3.heap.size ≤ w4.heap.size := hk4.size
    clear d4 hrow hk4 HP HTR HBe3 HBd3 HBW3
    have d4 := HBD4.out.all4
    have hltD := HBD4.out.lt
    unfold exA
    go_upto_region 5 with fail
    obtain ⟨W5, hW5⟩ : ∃ W5, W5 = ((((w4.setCell ⟨bD, 0, none⟩ (.int .i64 (resC r : Nat))).setCell ⟨bD, 1, none⟩ (.int .i64 (resP r).1)).setCell ⟨bD, 2, none⟩ (.int .i64 (resP r).2.1)).setCell ⟨bD, 3, none⟩ (.int .i64 (resP r).2.2)).alloc (.cells #[.int .i64 (resE r).op, .int .i64 (resE r).num, .string (resE r).name, .string (resE r).field, .slice A2 (resE r).list.length cc2] 25) := ⟨_, rfl⟩
    rw [← hW5]
    have hk5 : Keep (· = bD) w4 W5 := by rw [hW5]; exact (Keep.put4 (P := (· = bD)) (Keep.refl _ w4) (.inr rfl) _ _ _ _).alloc _
    have HBD5 : Hid (Blk W5 bD #[.int .i64 (resC r : Nat), .int .i64 (resP r).1, .int .i64 (resP r).2.1, .int .i64 (resP r).2.2] 30) := by
      refine Lib.hid ?_
      rw [hW5]
      exact Blk.alloc (HBD4.out.set4 _ _ _ _) _
    have HBE5 : Hid (Blk W5 w4.heap.size (exA (resE r) A2 cc2) 25) := by
      refine Lib.hid ?_
      rw [hW5]
      exact Blk.new' (by simp) _ _
    have hs5 : w4.heap.size < W5.heap.size := HBE5.out.lt
    have HK5 := Lib.hid ((HK4.out.mono (Q := (· = bD)) (fun _ _ h => h.elim)).trans hk5)
    have HTR5 := Lib.hid (HTR4.out.keep hk5 hbg)
    have HBe5 := Lib.hid (hk5.blk HBe4.out (by omega))
    have HBd5 := Lib.hid (hk5.blk HBd4.out (by omega))
    have HROW5 := Lib.hid (HROW4.out.keep hk5 (fun k h1 h2 => by have := h2.1; omega))
    obtain ⟨bE, hbE⟩ : ∃ bE, bE = w4.heap.size := ⟨_, rfl⟩
    rw [← hbE] at HBE5 hs5 hs4 HROW5 ⊢
    have hbE2 : w4.heap.size = bE := hbE.symm
    clear d4 hW5 hk5 hbE HROW4 HTR4 HBe4 HBd4 HBD4 hltD
    have d4 := HBD5.out.all4
    have hltD := HBD5.out.lt
    cases r with
    | bad cb pb =>
      have hcb := HPB.out cb pb rfl
      have tcb : ((cb : Int) != 0) = true := by rw [bne_iff_ne]; omega
      have e5 := HBe5.out.all5
      have f4 := HBd5.out.all4
      have hltE := HBe5.out.lt
      have hltX := HBd5.out.lt
      have HQ : Hid (q = (exNil, cb, pb)) := HQ.out
      simp only [resE, resC, resP] at d4 HBD5 HBE5 HROW5 ⊢
      have hK5 := (HK5.out.mono (Q := fun _ => False) (fun k hk h => by omega))
      have HKF := Lib.hid hK5
      clear hcb hK5
      go_wp2_with fail
      go_region
      all_goals
        go_wp2_with fail
        refine bodyPost_ret (v := .tuple #[.agg (exA (exNil) none 0), .agg (diagA (cb) (pb))]) (by simp [exA, exNil, diagA, Ex.op, Ex.num, Ex.name, Ex.field, Ex.list, results, Tryz.results10, go_sem, e5, f4, hxr, Ne.symm hxr]) rfl ?_
        rw [HQ.out]
        refine ⟨none, 0, rfl, ?_, ?_⟩
        · exact RdRow.nil _ _ _
        · exact (Keep.put4 (Keep.put5 (HKF.out) (.inl (Nat.le_refl _)) _ _ _ _ _) (.inl (by omega)) _ _ _ _).drew
    | ok e j =>
      have hj := HPS.out e j rfl
      simp only [resE, resC, resP, resI] at d4 HBD5 HBE5 HROW5 ⊢
      have HQ1 : Hid (q = if (tk toks j).kind ≠ 0 then (exNil, wrC toks j, (tk toks j).pos) else (e, 0, (0, 0, 0))) := HQ.out
      clear HQ
      go_upto_region 8 with fail
      obtain ⟨W6, hWW6⟩ : ∃ W6, W6 = W5.alloc (.cells #[.slice (some ⟨g, 0, none⟩) toks.length c1, .int .i64 j, .int .i64 0, .int .i64 0, .int .i64 0, .int .i64 0] 59) := ⟨_, rfl⟩
      rw [← hWW6]
      have HBW6 := Lib.hid (show Blk W6 W5.heap.size #[.slice (some ⟨g, 0, none⟩) toks.length c1, .int .i64 j, .int .i64 0, .int .i64 0, .int .i64 0, .int .i64 0] 59 by rw [hWW6]; exact Blk.new _ _ _)
      have HAW6 := Lib.hid (show Keep (fun _ => False) W5 W6 by rw [hWW6]; exact (Keep.refl _ _).alloc _)
      have HZW6 := Lib.hid (show W6.heap.size = W5.heap.size + 1 by rw [hWW6]; simp)
      clear hWW6
      obtain ⟨bR, hbR⟩ : ∃ bR, bR = W5.heap.size := ⟨_, rfl⟩
      have hER : bE < bR := by omega
      have hgR : g ≠ bR := by omega
      have hDR : bD ≠ bR := by omega
      have heR : w.heap.size ≠ bR := by omega
      have hXR : bX ≠ bR := by omega
      rw [← hbR] at HBW6 ⊢
      have HRD6 := Lib.hid (show Rdr W6 bR g c1 toks (okS j) from ⟨HBW6.out, HTR5.out.keep HAW6.out (fun h => h), hgR, HPOS.out, by omega, hj⟩)
      have HK6 := Lib.hid (HK5.out.trans (HAW6.out.mono (Q := (· = bD)) (fun _ _ h => h.elim)))
      have HBe6 := Lib.hid (HAW6.out.blk HBe5.out (fun h => h))
      have HBd6 := Lib.hid (HAW6.out.blk HBd5.out (fun h => h))
      have HBE6 := Lib.hid (HAW6.out.blk HBE5.out (fun h => h))
      have HROW6 := Lib.hid (HROW5.out.keepF HAW6.out)
      have hs6 : bR < W6.heap.size := by rw [HZW6.out]; omega
      have HO0 := rof0_any bR g c1 toks (okS j) W6 HRD6.out
      have hof : isOf toks (okS j) 0 = decide ((tk toks j).kind = 0) := by unfold isOf okS; rw [Bool.eq_iff_iff]; simp
      have HOF := Lib.hid hof
      obtain ⟨T, hT⟩ : ∃ T, T = ofT toks (okS j) 0 := ⟨_, rfl⟩
      rw [hof, ← hT] at HO0
      unfold tokA at HO0
      have HO := Lib.hid HO0
      clear d4 hof HO0 hT hbR HBW6 HBe5 HBd5 HBE5 HROW5 HTR5 HK5
      by_cases hk0 : (tk toks j).kind = 0
      · have ho := HO.out
        rw [decide_eq_true hk0] at ho
        have HO := Lib.hid ho
        have hq := HQ1.out
        rw [if_neg (by simpa using hk0)] at hq
        have HQ := Lib.hid hq
        clear ho hq HQ1 hk0 HOF
        go_wp2_with fail
        refine HO.out.mono ?_
        rintro en w7 ⟨rfl, _, hk7⟩
        have HBe7 := Lib.hid (hk7.blk HBe6.out heR)
        have HBd7 := Lib.hid (hk7.blk HBd6.out hXR)
        have HBE7 := Lib.hid (hk7.blk HBE6.out (by omega))
        have HROW7 := Lib.hid (HROW6.out.keep hk7 (fun k h1 h2 => by have := h2.2; omega))
        have HK7 := Lib.hid (((HK6.out.mono (Q := fun k => k = bD ∨ k = bR) (fun _ _ h => .inl h)).trans (hk7.mono (fun _ _ h => .inr h))).mono (Q := fun _ => False) (fun k hk h => by omega))
        clear hk7 HO
        have e5 := HBe7.out.all5
        have f4 := HBd7.out.all4
        have g5 := HBE7.out.all5
        have hltE := HBe7.out.lt
        have hltX := HBd7.out.lt
        have hltG := HBE7.out.lt
        go_wp2_with fail
        refine bodyPost_ret (v := .tuple #[.agg (exA (e) A2 cc2), .agg (diagA (0) ((0, 0, 0)))]) (by simp [exA, exNil, diagA, Ex.op, Ex.num, Ex.name, Ex.field, Ex.list, results, Tryz.results10, go_sem, e5, f4, g5, hltE, hltX, hltG, hxr, Ne.symm hxr]) rfl ?_
        rw [HQ.out]
        refine ⟨A2, cc2, rfl, ?_, ?_⟩
        · exact (((HROW7.out).keep (P := (· = w.heap.size)) (Keep.put5 (P := (· = w.heap.size)) (b := w.heap.size) (Keep.refl _ _) (.inr rfl) _ _ _ _ _) (fun k h1 h2 => by have := h2.1; omega)).keep (P := (· = bX)) (Keep.put4 (P := (· = bX)) (b := bX) (Keep.refl _ _) (.inr rfl) _ _ _ _) (fun k h1 h2 => by have := h2.1; omega)).keepF ((Keep.refl _ _).alloc _) |>.mono (fun k _ h => by have := h.1; show w.heap.size ≤ k; omega)
        · exact (Keep.put4 (Keep.put5 (HK7.out) (.inl (Nat.le_refl _)) _ _ _ _ _) (.inl (by omega)) _ _ _ _).alloc _
      · have ho := HO.out
        rw [decide_eq_false hk0] at ho
        have HO := Lib.hid ho
        have hq := HQ1.out
        rw [if_pos (by simpa using hk0)] at hq
        have hw1 : (wrongP toks (okS j)).code = wrC toks j ∧ (wrongP toks (okS j)).pos = (tk toks j).pos := by
          unfold wrongP failP okS wrC
          simp
        rw [← hw1.1, ← hw1.2] at hq
        have HQ := Lib.hid hq
        clear ho hq HQ1 hk0 HOF hw1
        go_wp2_with fail
        refine HO.out.mono ?_
        rintro en w7 ⟨rfl, hrd, hk7⟩
        have HRD7 := Lib.hid (hrd (by first | trivial | rfl))
        have HBe7 := Lib.hid (hk7.blk HBe6.out heR)
        have HBd7 := Lib.hid (hk7.blk HBd6.out hXR)
        have HK7 := Lib.hid (((HK6.out.mono (Q := fun k => k = bD ∨ k = bR) (fun _ _ h => .inl h)).trans (hk7.mono (fun _ _ h => .inr h))).mono (Q := fun _ => False) (fun k hk h => by omega))
        clear hk7 HO hrd
        go_upto_region 9 with fail
        obtain ⟨W8, hWW8⟩ : ∃ W8, W8 = w7.alloc (.cells #[.int .i64 T.kind, .string T.text, .int .i64 T.n, .bool T.same, .int .i64 T.pos.1, .int .i64 T.pos.2.1, .int .i64 T.pos.2.2] 50) := ⟨_, rfl⟩
        rw [← hWW8]
        have HBW8 := Lib.hid (show Blk W8 w7.heap.size #[.int .i64 T.kind, .string T.text, .int .i64 T.n, .bool T.same, .int .i64 T.pos.1, .int .i64 T.pos.2.1, .int .i64 T.pos.2.2] 50 by rw [hWW8]; exact Blk.new _ _ _)
        have HAW8 := Lib.hid (show Keep (fun _ => False) w7 W8 by rw [hWW8]; exact (Keep.refl _ _).alloc _)
        have HZW8 := Lib.hid (show W8.heap.size = w7.heap.size + 1 by rw [hWW8]; simp)
        clear hWW8
        have HRD8 := Lib.hid (HRD7.out.keepF HAW8.out)
        go_wp2_with fail
        refine (wrong_any bR g c1 toks (okS j) W8 HRD8.out).mono ?_
        rintro en w9 ⟨rfl, hrd9, hk9⟩
        have HBe9 := Lib.hid (hk9.blk (HAW8.out.blk HBe7.out (fun h => h)) heR)
        have HBd9 := Lib.hid (hk9.blk (HAW8.out.blk HBd7.out (fun h => h)) hXR)
        have HK9 := Lib.hid ((((HK7.out.trans HAW8.out).mono (Q := (· = bR)) (fun _ _ h => h.elim)).trans hk9).mono (Q := fun _ => False) (fun k hk h => by omega))
        obtain ⟨sw, hsw⟩ : ∃ sw, sw = wrongP toks (okS j) := ⟨_, rfl⟩
        rw [← hsw] at hrd9 HQ
        have r6 := hrd9.all6
        have hltR := hrd9.blk.lt
        clear hk9 hrd9 hsw
        have e5 := HBe9.out.all5
        have f4 := HBd9.out.all4
        have hltE := HBe9.out.lt
        have hltX := HBd9.out.lt
        go_wp2_with fail
        go_region
        all_goals
          go_wp2_with fail
          refine bodyPost_ret (v := .tuple #[.agg (exA (exNil) none 0), .agg (diagA (sw.code) (sw.pos))]) (by simp [exA, exNil, diagA, Ex.op, Ex.num, Ex.name, Ex.field, Ex.list, results, Tryz.results10, go_sem, e5, f4, hxr, Ne.symm hxr]) rfl ?_
          rw [HQ.out]
          refine ⟨none, 0, rfl, ?_, ?_⟩
          · exact RdRow.nil _ _ _
          · exact (Keep.put4 (Keep.put5 (HK9.out) (.inl (Nat.le_refl _)) _ _ _ _ _) (.inl (by omega)) _ _ _ _).drew
  · have t0 : ((code : Int) != 0) = true := by rw [bne_iff_ne]; omega
    have hq := HQ0.out
    rw [if_pos h0] at hq
    have HQ := Lib.hid hq
    have e5 := HBe3.out.all5
    have f4 := HBd3.out.all4
    have hltE := HBe3.out.lt
    have hltX := HBd3.out.lt
    clear hq HQ0 h0
    go_wp2_with fail
    go_region
    all_goals
      go_wp2_with fail
      refine bodyPost_ret (v := .tuple #[.agg (exA (exNil) none 0), .agg (diagA (code) (pos))]) (by simp [exA, exNil, diagA, Ex.op, Ex.num, Ex.name, Ex.field, Ex.list, results, Tryz.results10, go_sem, e5, f4, hxr, Ne.symm hxr]) rfl ?_
      rw [HQ.out]
      refine ⟨none, 0, rfl, ?_, ?_⟩
      · exact RdRow.nil _ _ _
      · exact (Keep.put4 (Keep.put5 (HK3.out) (.inl (Nat.le_refl _)) _ _ _ _ _) (.inl (by omega)) _ _ _ _).drew
end Go.Proofs.YtgmmjhelcpgakaaGreatDoor
/- pantographlaw08.awake: the document's examples hold. -/
namespace Go.Proofs.YtgmmjhelcpgakaaGreatDoor
open Go.RowKit
set_option linter.unusedVariables false
set_option linter.unusedSimpArgs false

def ex8Text : ByteArray := ⟨#[45, 97, 32, 42, 32, 98, 32, 43, 32, 99]⟩
def ex8Mul : Ex := exTwo 10 (exVar ⟨#[97]⟩) (exVar ⟨#[98]⟩)
def ex8Neg : Ex := exOne 8 ex8Mul
def ex8 : Ex := exTwo 15 ex8Neg (exVar ⟨#[99]⟩)
def ex8P : Ex := exTwo 10 (exOne 8 (exVar ⟨#[97]⟩)) (exVar ⟨#[98]⟩)
theorem ex8_read : readE ex8Text = (ex8, 0, (0, 0, 0)) := by kernel_rfl
theorem ex8_print : printP 1073741824 ex8P = ([40, 45, 97, 41, 32, 42, 32, 98], 0) := by kernel_rfl
theorem ex8P_sz : SzE ex8P := by
  unfold ex8P exTwo exOne exVar
  simp [SzE, SzEs, eS]
  decide
def TruePost (w : World) (e : Ending) (w' : World) : Prop := e = .returned (.bool true) ∧ Keep (fun _ => False) w w'
set_option maxRecDepth 100000 in
set_option maxHeartbeats 4000000 in
theorem awake8_any (w : World) (hg : Glob w.heap.size w) :
    Calls Tryz.prog 9 #[] w (TruePost w) := by
  have hR := exread_any ex8Text w (by decide) hg
  rw [ex8_read] at hR
  have HR := Lib.hid hR; have HG := Lib.hid hg
  clear hR hg
  have hu := Tryz.underlying25
  have hu28 := Tryz.underlying30
  have hu26 := Tryz.underlying28
  go_enter Tryz.func9, Tryz.ntmps9
  go_wp2_with fail
  refine HR.out.mono ?_
  rintro e1 w1 ⟨A, cc, rfl, hr1, hk1⟩
  have HR1 := Lib.hid hr1; have HK1 := Lib.hid hk1
  clear hr1 hk1
  unfold exA diagA
  go_wp2_with fail
  have cap0 : ∀ a b c d : Obj, Keep (fun _ => False) w1 ((((w1.alloc a).alloc b).alloc c).alloc d) := fun a b c d => ((((Keep.refl _ _).alloc _).alloc _).alloc _).alloc _
  have size0 : ∀ a b c d : Obj, ((((w1.alloc a).alloc b).alloc c).alloc d).heap.size = w1.heap.size + 4 := fun a b c d => by simp
  refine (print_any ex8P ex8P_sz (some ⟨w1.heap.size + 3, 0, none⟩) 2 _ (globW HG.out (HK1.out.trans (cap0 _ _ _ _))) (by decide) ?kd).mono ?_
  case kd =>
    show KdRow _ _ [exOne 8 (exVar ⟨#[97]⟩), exVar ⟨#[98]⟩] _
    refine KdRow.two (t := 25) (e := exOne 8 (exVar ⟨#[97]⟩)) (e' := exVar ⟨#[98]⟩) (A := some ⟨w1.heap.size + 2, 0, none⟩) (c := 1) (A' := none) (c' := 0) (by rw [size0]; omega) (by decide) (by decide) ?_ (KdRow.nil _ _ _) (Blk.new' (by simp) _ _)
    show KdRow _ _ [exVar ⟨#[97]⟩] _
    exact KdRow.one (t := 25) (e := exVar ⟨#[97]⟩) (A := none) (c := 0) (by rw [size0]; omega) (by decide) (KdRow.nil _ _ _) ((Blk.new' (by simp) _ _).alloc _)
  rw [ex8_print]
  rintro e2 w2 ⟨rfl, hk2⟩
  have HKW := Lib.hid ((cap0 _ _ _ _).trans hk2)
  have hb1 := hk2.blk ((((Blk.new w1 _ _).alloc _).alloc _).alloc _) (fun h => h)
  have hb2 := hk2.blk (((Blk.new' (n := w1.heap.size + 1) (by simp) _ _).alloc _).alloc _) (fun h => h)
  have HB1 := Lib.hid hb1; have HB2 := Lib.hid hb2
  clear hk2 hb1 hb2 cap0 size0
  have a1 := HB1.out.all5
  have a2 := HB2.out.all4
  obtain ⟨b1, o1, rfl, hbs, hcs⟩ := (HR1.out.keepF HKW.out) (by decide)
  obtain ⟨A2, c2, hr2, hc2⟩ := hcs.at_ 0 ex8Neg rfl
  obtain ⟨b2, o2, rfl, _, hcs2⟩ := hr2 (by decide)
  obtain ⟨A3, c3, _, hc3⟩ := hcs2.at_ 0 ex8Mul rfl
  have k0 : w2.cell? ⟨b1, o1, none⟩ = some (.int .i64 8) := hc2 0 (by decide)
  have k4 : w2.cell? ⟨b1, o1 + 4, none⟩ = some (.slice (some ⟨b2, o2, none⟩) 1 c2) := hc2 4 (by decide)
  have m0 : w2.cell? ⟨b2, o2, none⟩ = some (.int .i64 10) := hc3 0 (by decide)
  have hl1 := World.block_lt_of_cell? _ _ k0
  have hl2 := World.block_lt_of_cell? _ _ m0
  simp only at hl1 hl2
  clear hc2 hc3 hcs hcs2 hr2 hbs
  have z0 : ex8.op = 15 := rfl
  have z4 : ex8.list.length = 2 := rfl
  rw [z0, z4] at a1
  go_wp2_with fail
  go_ret
  exact ⟨rfl, HK1.out.trans HKW.out⟩
end Go.Proofs.YtgmmjhelcpgakaaGreatDoor
