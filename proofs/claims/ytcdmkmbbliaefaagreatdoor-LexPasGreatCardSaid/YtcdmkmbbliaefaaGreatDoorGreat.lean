/- The law LexPasGreat, walked. -/
import Derived.Test.YtcdmkmbbliaefaaGreatDoorAwake
import Derived.Test.YtcdmkmbbliaefaaGreatDoorGreatS
import Derived.Lib.ConvBytes
namespace Go.Proofs.YtcdmkmbbliaefaaGreatDoor
open Go.RowKit
set_option linter.unusedVariables false
set_option linter.unusedSimpArgs false

/-- A row of bytes made of a string. -/
def RowB (w : World) (b : Nat) (l : Bs) (cap : Nat) : Prop :=
  ∃ cs : Array Value, ∃ m : Nat × Nat, w.heap[b]? = some (.cells cs 5 m) ∧ l.length ≤ cap ∧ cap ≤ m.1 ∧ ∀ j (h : j < l.length), cs[j]? = some (u8v l[j])
namespace RowB
variable {w w' : World} {b cap : Nat} {l : Bs}
theorem cell (h : RowB w b l cap) (j : Nat) (hj : j < l.length) : w.cell? ⟨b, j, none⟩ = some (u8v l[j]) := by
  obtain ⟨cs, m, h1, _, _, h2⟩ := h
  simp [World.cell?, h1, h2 j hj]
theorem free (h : RowB w b l cap) (j : Nat) (hj : j < l.length) : w.frozen? ⟨b, j, none⟩ = false := by
  obtain ⟨cs, m, h1, h3, h4, h2⟩ := h
  simp [World.frozen?, h1]; omega
theorem lt (h : RowB w b l cap) : b < w.heap.size := by
  obtain ⟨cs, m, h1, _⟩ := h
  rcases Nat.lt_or_ge b w.heap.size with h' | h'
  · exact h'
  · simp [Array.getElem?_eq_none h'] at h1
theorem set (h : RowB w b l cap) (j : Nat) (c : UInt8) : RowB (w.setCell ⟨b, j, none⟩ (u8v c)) b (l.set j c) cap := by
  obtain ⟨cs, m, h1, h3, h4, h2⟩ := h
  refine ⟨cs.setIfInBounds j (u8v c), m, by simp [World.setCell, Array.getElem?_modify, h1], by rw [List.length_set]; exact h3, h4, fun i hi => ?_⟩
  rw [List.length_set] at hi
  rw [Array.getElem?_setIfInBounds, List.getElem_set]
  by_cases e : j = i
  · subst e
    have : j < cs.size := by
      have := h2 j hi
      exact (Array.getElem?_eq_some_iff.1 this).1
    rw [if_pos rfl, if_pos this, if_pos rfl]
  · rw [if_neg e, if_neg e]; exact h2 i hi
theorem drewN (h : RowB w b l cap) (n : Nat) : RowB (w.drewN n) b l cap := h
theorem str (h : RowB w b l cap) : (convert 34 9 (.slice (some ⟨b, 0, none⟩) l.length cap)).run Tryz.prog w = .ok (.string ⟨l.toArray⟩) w :=
  run_convert_bytes_back w _ _ _ ⟨b, 0, none⟩ cap l Tryz.underlying34 Tryz.underlying5 Tryz.underlying9 (fun j hj => by
    have := h.cell j hj
    have ha : (⟨b, 0, none⟩ : Addr).add j = ⟨b, j, none⟩ := by unfold Addr.add; split <;> simp_all
    rw [ha, this]; rfl)
end RowB
theorem rowB_of (w : World) (s : ByteArray) : RowB (Lib.bytesWorld w 5 s) w.heap.size (bs s) (grownCap w s.size 0 5) ∧ Keep (fun _ => False) w (Lib.bytesWorld w 5 s) := by
  have hcap : s.size ≤ grownCap w s.size 0 5 := grownCap_ge _ _ _ _
  refine ⟨⟨_, _, Lib.bytesWorld_at_new w _ s, by rw [bs_len]; exact hcap, ?_, fun j hj => ?_⟩, ?_⟩
  · unfold Lib.bytesCells
    rw [Array.size_append, Array.size_map, Array.size_replicate]
    have : s.data.size = s.size := rfl
    omega
  · rw [bs_len] at hj
    have hj' : j < s.data.size := hj
    unfold Lib.bytesCells
    rw [Array.getElem?_append_left (by rw [Array.size_map]; exact hj'), Array.getElem?_map, Array.getElem?_eq_getElem hj']
    rfl
  · refine ⟨rfl, rfl, rfl, ?_, fun k hk _ => Lib.bytesWorld_at_old w _ s k hk⟩
    rw [Lib.bytesWorld_size]; omega
theorem up_num (x : UInt8) (h1 : 97 ≤ x.toNat) (h2 : x.toNat ≤ 122) : (x.toNat : Int) - 97 + 65 = ((upB x).toNat : Int) := by
  have h := all_u8 (p := fun x => !(decide (97 ≤ x.toNat) && decide (x.toNat ≤ 122)) || decide ((x.toNat : Int) - 97 + 65 = ((upB x).toNat : Int))) (by decide +kernel) x
  simp [h1, h2] at h
  exact h
theorem below_drewN {B : Nat} {a w : World} (h : Below B a w) (n : Nat) : Below B a (w.drewN n) := ⟨h.os, h.tape, h.output, h.size, h.block⟩
theorem conv_row (w : World) (s : ByteArray) : ∃ cap w2, (convert 9 34 (.string s)).run Tryz.prog w = .ok (.slice (some ⟨w.heap.size, 0, none⟩) (bs s).length cap) w2 ∧ RowB w2 w.heap.size (bs s) cap ∧ Keep (fun _ => False) w w2 :=
  ⟨_, _, by rw [bs_len]; exact Lib.run_convert_string_bytes (P := Tryz.prog) w 9 34 5 s Tryz.underlying9 Tryz.underlying34 Tryz.underlying5, (rowB_of w s).1, (rowB_of w s).2⟩
theorem OwnToks.at' {w : World} {base n c : Nat} {A : Option Addr} {l : List TokL} (h : OwnToks w base (.slice A n c) l) (hn : n = l.length) (i : Nat) (t : TokL) (ht : l[i]? = some t) :
    ∃ g, A = some ⟨g, 0, none⟩ ∧ base ≤ g ∧ g < w.heap.size ∧ ∀ j, j < 7 → w.cell? ⟨g, i * 7 + j, none⟩ = (tokC t)[j]? := by
  subst hn
  have hil : i < l.length := (List.getElem?_eq_some_iff.1 ht).1
  obtain ⟨g, c', hv, hb, hg⟩ := h.shape (by omega)
  injection hv with hA _ _
  subst hA
  exact ⟨g, rfl, hb, hg, fun j hj => h.cell i t ht j hj⟩
/-- The text as far as it has been made great. -/
def upTo (k : Nat) (l : Bs) : Bs := upL (l.take k) ++ l.drop k
theorem upTo_len (k : Nat) (l : Bs) : (upTo k l).length = l.length := by
  unfold upTo upL; rw [List.length_append, List.length_map, ← List.length_append, List.take_append_drop]
theorem upTo_zero (l : Bs) : upTo 0 l = l := by simp [upTo, upL]
theorem upTo_all (l : Bs) : upTo l.length l = upL l := by simp [upTo, upL]
theorem upTo_get (k : Nat) (l : Bs) (h : k < l.length) : (upTo k l)[k]'(by rw [upTo_len]; exact h) = l[k] := by
  have h2 : (upTo k l)[k]? = some l[k] := by
    unfold upTo upL
    rw [List.getElem?_append_right (by rw [List.length_map, List.length_take]; omega), List.length_map, List.length_take, Nat.min_eq_left (by omega), Nat.sub_self, List.getElem?_drop, Nat.add_zero, List.getElem?_eq_getElem h]
  rw [List.getElem?_eq_getElem (by rw [upTo_len]; exact h)] at h2
  injection h2
theorem upTo_succ (k : Nat) (l : Bs) (h : k < l.length) : (upTo k l).set k (upB l[k]) = upTo (k + 1) l := by
  unfold upTo upL
  have hl : ((l.take k).map upB).length = k := by rw [List.length_map, List.length_take]; omega
  rw [List.set_append_right _ _ (by omega), hl, Nat.sub_self, List.drop_eq_getElem_cons h, List.set_cons_zero, List.take_succ_eq_append_getElem h, List.map_append, List.append_assoc]
  rfl
theorem upTo_same (k : Nat) (l : Bs) (h : k < l.length) (hs : smallB l[k] = false) : upTo (k + 1) l = upTo k l := by
  unfold upTo upL
  rw [List.take_succ_eq_append_getElem h, List.map_append, List.append_assoc, List.drop_eq_getElem_cons h]
  simp [upB, hs]

set_option maxRecDepth 100000 in
set_option maxHeartbeats 4000000 in
theorem lexPasGreat_any (s : ByteArray) (w : World) (hs : s.size ≤ 140737488351232) (hg : Glob w.heap.size w) :
    Calls Tryz.prog 5 #[.string s] w fun e w' => e = .returned (.bool true) ∧ Below w.heap.size w w' := by
  have hu28 := Tryz.underlying28
  have hu26 := Tryz.underlying26
  have hu38 := Tryz.underlying38
  by_cases hbig : 3000 < s.size
  · have ht : decide ((3000 : Int) < (s.size : Int)) = true := by simp; omega
    have HAW := Lib.hid (awake_any w hg)
    clear hbig hg
    go_enter Tryz.func5, Tryz.ntmps5
    go_wp2_with fail
    refine HAW.out.mono ?_
    rintro e1 w1 ⟨rfl, hb⟩
    go_wp2_with fail
    go_ret
    exact ⟨rfl, hb⟩
  have ht : decide ((3000 : Int) < (s.size : Int)) = false := by simp; omega
  have hA := all_any s w hs hg
  obtain ⟨R, hR⟩ : ∃ R, R = lexAll s := ⟨_, rfl⟩
  rw [← hR] at hA
  have HGW : Hid (∀ τ ∈ R.toks, Worded τ) := by rw [hR]; exact lexAll_good s
  have HCT : Hid (R.toks.length ≤ s.size + 1) := by rw [hR]; exact lexAll_count s
  unfold AllPost at hA
  have HA := Lib.hid hA
  have HGL := Lib.hid hg
  clear hA hg hR hbig
  go_enter Tryz.func5, Tryz.ntmps5
  go_wp2_with fail
  refine HA.out.mono ?_
  clear HA
  rintro e1 w1 ⟨v, rfl, ho, hb⟩
  obtain ⟨code, hcode⟩ : ∃ code, code = R.code := ⟨_, rfl⟩
  unfold diagV
  rw [← hcode]
  have HC := Lib.hid hcode
  clear hcode
  by_cases h0 : code ≠ 0
  · have ht2 : ((code : Int) == 0) = false := by rw [beq_eq_false_iff_ne]; omega
    have hb2 : Below w.heap.size w (w1.alloc (.cells #[.int .i64 code, .int .i64 R.pos.1, .int .i64 R.pos.2.1, .int .i64 R.pos.2.2] 28)) := hb.alloc hb.size _
    have HAW := Lib.hid (awake_any _ ((HGL.out.below hb2 (Nat.le_refl _)).mono hb2.size))
    have HB2 := Lib.hid hb2
    clear ho hb hb2 h0
    go_wp2_with fail
    refine HAW.out.mono ?_
    rintro e2 w2 ⟨rfl, hb⟩
    go_wp2_with fail
    go_ret
    exact ⟨rfl, HB2.out.trans (hb.mono HB2.out.size)⟩
  have h0 : code = 0 := by omega
  subst h0
  obtain ⟨n, hn⟩ : ∃ n, n = R.toks.length := ⟨_, rfl⟩
  obtain ⟨A, c, rfl⟩ := ho.form
  rw [← hn]
  have HN := Lib.hid hn
  have hnb : n ≤ s.size + 1 := by rw [hn]; exact HCT.out
  have hK : Keep (fun _ => False) w1 (w1.alloc (.cells #[.int .i64 0, .int .i64 R.pos.1, .int .i64 R.pos.2.1, .int .i64 R.pos.2.2] 28)) := (Keep.refl _ w1).alloc _
  have HO := Lib.hid (ownsRow_keep ho hK (fun _ _ h => h))
  have HB := Lib.hid (hb.alloc hb.size (.cells #[.int .i64 0, .int .i64 R.pos.1, .int .i64 R.pos.2.1, .int .i64 R.pos.2.2] 28))
  clear ho hb hK hn
  go_wp2_with fail
  go_loopw [5] (fun i wr => ∃ k : Nat, k ≤ n ∧ i = .int .i64 k ∧ OwnToks wr w.heap.size (.slice A n c) R.toks ∧ Below w.heap.size w wr) (fun i _ => n - (intOf i).toNat)
  case atStart => exact ⟨0, Nat.zero_le _, rfl, HN.out ▸ HO.out, HB.out⟩
  case round =>
    obtain ⟨k, hk, rfl, ho, hb⟩ := hrel
    by_cases hkn : k < n
    · obtain ⟨τ, hτ⟩ : ∃ τ, R.toks[k]? = some τ := ⟨R.toks[k]'(by rw [← HN.out]; exact hkn), List.getElem?_eq_getElem _⟩
      have hW := HGW.out τ (List.mem_of_getElem? hτ)
      obtain ⟨g, rfl, hbg, hgl, hcell⟩ := ho.at' HN.out k τ hτ
      have k0 := hcell 0 (by decide)
      have k1 := hcell 1 (by decide)
      simp only [tokC, List.getElem?_cons_succ, List.getElem?_cons_zero, Nat.add_zero] at k0 k1
      have HO := Lib.hid ho
      have HB := Lib.hid hb
      have HW := Lib.hid hW
      have hi0 : (0 : Int) ≤ (k : Int) := by omega
      have hi1 : (k : Int) < (n : Int) := by omega
      have HTAU := Lib.hid hτ
      clear ho hb hcell hW hτ
      obtain ⟨kind, hkind⟩ : ∃ kind, kind = τ.kind := ⟨_, rfl⟩
      rw [← hkind] at k0
      have HKD := Lib.hid hkind
      clear hkind
      by_cases hk12 : kind = 1 ∨ kind = 2
      · obtain ⟨l, hl⟩ : ∃ l, l = bs τ.text := ⟨_, rfl⟩
        obtain ⟨T, hT⟩ : ∃ T, T = τ.text := ⟨_, rfl⟩
        rw [← hT] at k1 hl
        have hgood : GoodWord l kind := by
          have := HW.out
          unfold Worded at this
          rw [← HKD.out, ← hT, ← hl] at this
          exact this hk12
        have HGD := Lib.hid hgood
        obtain ⟨m, hm⟩ : ∃ m, m = l.length := ⟨_, rfl⟩
        have hm32 : m ≤ 32 := by rw [hm]; exact hgood.len
        obtain ⟨cap, w2, hcv, hr2, hk2⟩ := conv_row wr T
        obtain ⟨b, hb⟩ : ∃ b, b = wr.heap.size := ⟨_, rfl⟩
        rw [← hl, ← hm, ← hb] at hcv
        rw [← hl, ← hb] at hr2
        have HR2 := Lib.hid hr2; have HK2 := Lib.hid hk2; have HM := Lib.hid hm; have HBE := Lib.hid hb; have HL := Lib.hid hl; have HT := Lib.hid hT
        clear hr2 hk2 hgood hm hb hl hT
        rcases hk12 with rfl | rfl
        all_goals
          go_wp2_with fail
          go_loopw [7] (fun q wi => ∃ j : Nat, j ≤ m ∧ q = .int .i64 j ∧ RowB wi b (upTo j l) cap ∧ Keep (· = b) w2 wi) (fun q _ => m - (intOf q).toNat)
          case atStart => exact ⟨0, Nat.zero_le _, rfl, by rw [upTo_zero]; exact HR2.out, Keep.refl _ _⟩
          case round =>
            obtain ⟨wi, rfl⟩ : ∃ wi : World, wi = wr := ⟨_, rfl⟩
            obtain ⟨j, hj, rfl, hrow, hki⟩ := hrel
            have HML := HM.out
            by_cases hjm : j < m
            · have hjl : j < l.length := by omega
              obtain ⟨x, hx⟩ : ∃ x, x = l[j] := ⟨_, rfl⟩
              have c0 := hrow.cell j (by rw [upTo_len]; exact hjl)
              rw [upTo_get j l hjl, ← hx] at c0
              unfold u8v at c0
              have f0 := hrow.free j (by rw [upTo_len]; exact hjl)
              have j0 : (0 : Int) ≤ (j : Int) := by omega
              have j1 : (j : Int) < (m : Int) := by omega
              have HX := Lib.hid hx; have HROW := Lib.hid hrow; have HKI := Lib.hid hki
              clear hx hrow hki HML
              by_cases h97 : 97 ≤ x.toNat
              · have t1 : decide ((97 : Int) ≤ (x.toNat : Int)) = true := by simp; omega
                by_cases h122 : x.toNat ≤ 122
                · have t2 : decide ((x.toNat : Int) ≤ 122) = true := by simp; omega
                  have hup : (x.toNat : Int) - 97 + 65 = ((upB x).toNat : Int) := up_num x h97 h122
                  have HUP := Lib.hid hup
                  clear hup
                  go_wp2_with fail
                  go_roundw
                  case rel =>
                    refine ⟨j + 1, by omega, by go_num, ?_, HKI.out.set1 j _⟩
                    have h1 := HROW.out.set j (upB x)
                    have h2 := upTo_succ j l hjl
                    rw [← HX.out] at h2
                    rw [h2] at h1
                    unfold u8v at h1
                    rw [← HUP.out] at h1
                    exact h1
                  case measure => simp [intOf]; omega
                · have t2 : decide ((x.toNat : Int) ≤ 122) = false := by simp; omega
                  have hsm : smallB x = false := by unfold smallB; simp; omega
                  have HS := Lib.hid hsm
                  clear hsm h97 h122
                  go_wp2_with fail
                  go_roundw
                  case rel => exact ⟨j + 1, by omega, by go_num, by rw [upTo_same j l hjl (by rw [← HX.out]; exact HS.out)]; exact HROW.out, HKI.out⟩
                  case measure => simp [intOf]; omega
              · have t1 : decide ((97 : Int) ≤ (x.toNat : Int)) = false := by simp; omega
                have hsm : smallB x = false := by unfold smallB; simp; omega
                have HS := Lib.hid hsm
                clear hsm h97
                go_wp2_with fail
                go_roundw
                case rel => exact ⟨j + 1, by omega, by go_num, by rw [upTo_same j l hjl (by rw [← HX.out]; exact HS.out)]; exact HROW.out, HKI.out⟩
                case measure => simp [intOf]; omega
            · obtain rfl : j = m := by omega
              have hr3 : RowB wi b (upL l) cap := by rw [← upTo_all l, ← HML]; exact hrow
              have hcv2 := hr3.str
              have hul : (upL l).length = j := by rw [HML]; unfold upL; rw [List.length_map]
              rw [hul] at hcv2
              obtain ⟨a, z, hlex, ha1, ha2⟩ := good_lex l _ HGD.out
              have hbel : Below w.heap.size w wi := HB.out.trans ((HK2.out.below HB.out.size (fun _ h => h.elim)).trans (hki.below (Nat.le_trans HB.out.size HK2.out.size) (fun q hq => by subst hq; rw [HBE.out]; exact HB.out.size)))
              have hA2 := all_any ⟨(upL l).toArray⟩ wi (by show (upL l).toArray.size ≤ _; rw [List.size_toArray, hul]; omega) ((HGL.out.below hbel (Nat.le_refl _)).mono hbel.size)
              rw [hlex] at hA2
              unfold AllPost at hA2
              have HKI := Lib.hid hki; have HA2 := Lib.hid hA2; have HB3 := Lib.hid hbel; have HA1 := Lib.hid ha1; have HAT := Lib.hid ha2
              clear hA2 hbel ha1 ha2 hlex hki hrow hr3 HML hul
              go_wp2_with fail
              refine HA2.out.mono ?_
              rintro e3 w3 ⟨v3, rfl, ho3, hb3⟩
              unfold diagV
              obtain ⟨g3, c3, rfl, hbg3, hgl3⟩ := ho3.shape (by simp)
              rw [show [a, z].length = 2 from rfl]
              have hK3 : Keep (fun _ => False) w3 (w3.alloc (.cells #[.int .i64 0, .int .i64 0, .int .i64 0, .int .i64 0] 28)) := (Keep.refl _ w3).alloc _
              have ho4 : OwnToks (w3.alloc (.cells #[.int .i64 0, .int .i64 0, .int .i64 0, .int .i64 0] 28)) wi.heap.size (.slice (some ⟨g3, 0, none⟩) [a, z].length c3) [a, z] := ownsRow_keep ho3 hK3 (fun _ _ h => h)
              have a0 := ho4.cell 0 _ rfl 0 (by decide)
              have a1 := ho4.cell 0 _ rfl 1 (by decide)
              simp only [tokC, List.getElem?_cons_succ, List.getElem?_cons_zero, Nat.reduceMul, Nat.reduceAdd] at a0 a1
              rw [HA1.out] at a0
              rw [HAT.out] at a1
              have hB4 : Below w.heap.size w (w3.alloc (.cells #[.int .i64 0, .int .i64 0, .int .i64 0, .int .i64 0] 28)) := (HB3.out.trans (hb3.mono HB3.out.size)).alloc (Nat.le_trans HB3.out.size hb3.size) _
              have hK5 : Keep (wr.heap.size ≤ ·) wr (w3.alloc (.cells #[.int .i64 0, .int .i64 0, .int .i64 0, .int .i64 0] 28)) := by
                have h1 : Keep (wr.heap.size ≤ ·) wr wi := (HK2.out.mono (fun _ _ h => h.elim)).trans (HKI.out.mono (fun q _ hq => by subst hq; rw [HBE.out]; exact Nat.le_refl _))
                have h2 : Keep (wr.heap.size ≤ ·) wi (w3.alloc (.cells #[.int .i64 0, .int .i64 0, .int .i64 0, .int .i64 0] 28)) := ((Keep.of_below' hb3).alloc _).mono (fun q _ hq => Nat.le_trans h1.size hq)
                exact h1.trans h2
              have ho5 : OwnToks (w3.alloc (.cells #[.int .i64 0, .int .i64 0, .int .i64 0, .int .i64 0] 28)) w.heap.size (.slice (some ⟨g, 0, none⟩) n c) R.toks := ownsRow_keep HO.out hK5 (fun q hq h => by
                have : g = q := by simpa [Value.ownBlock] using hq
                omega)
              obtain ⟨g', hg', _, _, hcell5⟩ := ho5.at' HN.out k τ HTAU.out
              obtain rfl : g = g' := by injection hg' with hg'; injection hg'
              have b0 := hcell5 0 (by decide)
              have b1 := hcell5 1 (by decide)
              simp only [tokC, List.getElem?_cons_succ, List.getElem?_cons_zero, Nat.add_zero] at b0 b1
              rw [← HKD.out] at b0
              rw [← HT.out] at b1
              have hTl : (⟨l.toArray⟩ : ByteArray) = T := by rw [HL.out]; simp [bs]
              rw [hTl] at a1
              have HB4 := Lib.hid hB4; have HO5 := Lib.hid ho5
              clear hB4 hK3 hK5 ho3 ho4 ho5 hcell5 hb3 hg' hTl
              go_wp2_with fail
              go_quiet (fail)
              go_wp2_with fail
              go_roundw
              case rel => exact ⟨k + 1, by omega, by go_num, HO5.out, below_drewN HB4.out _⟩
              case measure => simp [intOf]; omega
      · have e1 : ((kind : Int) == 1) = false := by rw [beq_eq_false_iff_ne]; omega
        have e2 : ((kind : Int) == 2) = false := by rw [beq_eq_false_iff_ne]; omega
        have e3 : ((kind : Int) != 1) = true := by unfold bne; rw [e1]; rfl
        have e4 : ((kind : Int) != 2) = true := by unfold bne; rw [e2]; rfl
        go_wp2_with fail
        go_roundw
        case rel => exact ⟨k + 1, by omega, by go_num, HO.out, HB.out⟩
        case measure => simp [intOf]; omega
    · obtain rfl : k = n := by omega
      have HAW := Lib.hid (awake_any _ ((HGL.out.below hb (Nat.le_refl _)).mono hb.size))
      have HB2 := Lib.hid hb
      clear ho hb
      go_wp2_with fail
      refine HAW.out.mono ?_
      rintro e2 w2 ⟨rfl, hb⟩
      go_wp2_with fail
      go_ret
      exact ⟨rfl, HB2.out.trans (hb.mono HB2.out.size)⟩
end Go.Proofs.YtcdmkmbbliaefaaGreatDoor
