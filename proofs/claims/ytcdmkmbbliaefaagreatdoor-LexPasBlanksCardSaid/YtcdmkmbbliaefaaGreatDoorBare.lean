/- The reference's Bare and Same: tokens without their places; the same tokens. -/
import Derived.Test.YtcdmkmbbliaefaaGreatDoorTokRow
import Derived.Test.YtcdmkmbbliaefaaGreatDoorBareS
import Derived.Outline
namespace Go.Proofs.YtcdmkmbbliaefaaGreatDoor
open Go.RowKit
set_option linter.unusedVariables false
set_option linter.unusedSimpArgs false

theorem OwnToks.at2 {w : World} {base n c : Nat} {A : Option Addr} {l : List TokL} (h : OwnToks w base (.slice A n c) l) (hn : n = l.length) (i : Nat) (t : TokL) (ht : l[i]? = some t) :
    ∃ g, A = some ⟨g, 0, none⟩ ∧ base ≤ g ∧ g < w.heap.size ∧ ∀ j, j < 7 → w.cell? ⟨g, i * 7 + j, none⟩ = (tokC t)[j]? := by
  subst hn
  have hil : i < l.length := (List.getElem?_eq_some_iff.1 ht).1
  obtain ⟨g, c', hv, hb, hg⟩ := h.shape (by omega)
  injection hv with hA _ _
  subst hA
  exact ⟨g, rfl, hb, hg, fun j hj => h.cell i t ht j hj⟩

set_option maxRecDepth 100000 in
set_option maxHeartbeats 2000000 in
theorem refBare_any (A : Option Addr) (n c base : Nat) (l : List TokL) (w : World) (ho : OwnToks w base (.slice A n c) l) (hn : n = l.length) (hl : n ≤ 900000) :
    Calls Tryz.prog 13 #[.slice A n c] w fun e w' => ∃ v, e = .returned v ∧ OwnToks w' w.heap.size v (l.map bare) ∧ Keep (fun _ => False) w w' := by
  have hu26 := Tryz.underlying26
  have hu38 := Tryz.underlying38
  have HO := Lib.hid ho
  have HN := Lib.hid hn
  clear ho hn
  obtain ⟨i0, hi0, hz0, hz1, hz2⟩ := info_parts info_tok
  go_enter Tryz.func13, Tryz.ntmps13
  go_wp2_with fail
  go_loopw [3, 4] (fun o i wr => ∃ k : Nat, k ≤ n ∧ i = .int .i64 k ∧ OwnToks wr w.heap.size o ((l.take k).map bare) ∧ Keep (fun _ => False) w wr) (fun _ i _ => n - (intOf i).toNat)
  case atStart => exact ⟨0, Nat.zero_le _, rfl, World.ownsRow_nil _ _ _ _, Keep.refl _ _⟩
  case round =>
    obtain ⟨k, hk, rfl, hown, hkp⟩ := hrel
    obtain ⟨oA, oc, rfl⟩ := hown.form
    have hlen : ((l.take k).map bare).length = k := by rw [List.length_map, List.length_take, ← HN.out]; omega
    rw [hlen]
    by_cases hkn : k < n
    · obtain ⟨t, ht⟩ : ∃ t, l[k]? = some t := ⟨l[k]'(by rw [← HN.out]; exact hkn), List.getElem?_eq_getElem _⟩
      have how := ownsRow_keep HO.out hkp (fun _ _ h => h)
      obtain ⟨g, rfl, hbg, hgl, hcell⟩ := OwnToks.at2 how HN.out k t ht
      have k0 := hcell 0 (by decide)
      have k1 := hcell 1 (by decide)
      have k2 := hcell 2 (by decide)
      have k3 := hcell 3 (by decide)
      have k4 := hcell 4 (by decide)
      have k5 := hcell 5 (by decide)
      have k6 := hcell 6 (by decide)
      simp only [tokC, List.getElem?_cons_succ, List.getElem?_cons_zero, Nat.add_zero] at k0 k1 k2 k3 k4 k5 k6
      have hj0 : (0 : Int) ≤ (k : Int) := by omega
      have hj1 : (k : Int) < (n : Int) := by omega
      have HOWN := Lib.hid hown; have HKP := Lib.hid hkp; have HT := Lib.hid ht
      clear hown hkp ht hcell how
      go_wp2_with (at_builtin; refine wpList_append_own _ rfl _ _ 23 rfl w.heap.size 38 i0 _ 7 64 Tryz.underlying23 hi0 hz0 hz1 hz2 rfl (by decide) (.slice oA k oc) k (toksC ((l.take k).map bare)) rfl ?c0A ⟨wr.heap.size + 1, 0, none⟩ 1 1 [Value.int .i64 t.kind, Value.string t.text, Value.int .i64 t.n, Value.bool false, Value.int .i64 0, Value.int .i64 0, Value.int .i64 0] rfl rfl ?c1A ?c2A ?c3A ?c4A ?c5A ?_)
      case c0A =>
        have h1 := HOWN.out
        unfold OwnToks at h1
        rw [hlen] at h1
        exact World.ownsRow.alloc (World.ownsRow.alloc h1 _) _
      case c1A => exact World.news_of_block (cs := #[Value.int .i64 t.kind, Value.string t.text, Value.int .i64 t.n, Value.bool false, Value.int .i64 0, Value.int .i64 0, Value.int .i64 0]) (t := 38) (fr := (0, 0)) (by exact Blk.new2 _ _ _)
      case c2A => simp [Value.oneCell']
      case c3A => unfold maxLen; omega
      case c4A => omega
      case c5A => have := HKP.out.size; simp; omega
      · intro v' w1 hown' hgrow _
        have hk3 : Keep (fun _ => False) w w1 := ((HKP.out.alloc _).alloc _).grown hgrow (by
          intro q hq hlt
          have h5 := HOWN.out
          unfold OwnToks at h5
          rw [hlen] at h5
          have h4 := (World.ownsRow.lt h5 q hq).1
          omega)
        have ho3 : OwnToks w1 w.heap.size v' ((l.take (k + 1)).map bare) := by
          have hlk : k < l.length := by rw [← HN.out]; exact hkn
          have e1 : (l.take (k + 1)).map bare = (l.take k).map bare ++ [bare t] := by
            rw [List.take_succ_eq_append_getElem hlk, List.map_append]
            have := HT.out
            rw [List.getElem?_eq_getElem hlk] at this
            injection this with this
            rw [this]; rfl
          unfold OwnToks
          rw [e1, toksC_snoc, List.length_append, hlen, List.length_singleton, List.map_take]
          exact hown'
        have HO3 := Lib.hid ho3; have HK3 := Lib.hid hk3
        clear ho3 hk3 hown' hgrow
        go_wp2_with fail
        go_roundw
        case rel => exact ⟨k + 1, by omega, by go_num, HO3.out, HK3.out⟩
        case measure => simp [intOf]; omega
    · obtain rfl : k = n := by omega
      have hta : l.take k = l := by rw [HN.out, List.take_length]
      rw [hta] at hown
      have HOWN := Lib.hid hown; have HKP := Lib.hid hkp
      clear hown hkp hta
      go_wp2_with fail
      go_ret
      have h2 := HOWN.out
      rw [List.length_map, ← HN.out] at h2
      exact ⟨_, rfl, h2, HKP.out⟩

set_option maxRecDepth 100000 in
set_option maxHeartbeats 2000000 in
theorem refSame_any (A1 A2 : Option Addr) (n c1 c2 b1 b2 : Nat) (l : List TokL) (w : World) (h1 : OwnToks w b1 (.slice A1 n c1) l) (h2 : OwnToks w b2 (.slice A2 n c2) l) (hn : n = l.length) (hl : n ≤ 900000) :
    Calls Tryz.prog 11 #[.slice A1 n c1, .slice A2 n c2] w fun e w' => e = .returned (.bool true) ∧ Drawn w w' := by
  have hu26 := Tryz.underlying26
  have hu38 := Tryz.underlying38
  have H1 := Lib.hid h1; have H2 := Lib.hid h2
  have HN := Lib.hid hn
  clear h1 h2 hn
  go_enter Tryz.func11, Tryz.ntmps11
  go_wp2_with fail
  go_loopw [5] (fun i wr => ∃ k : Nat, k ≤ n ∧ i = .int .i64 k ∧ Drawn w wr) (fun i _ => n - (intOf i).toNat)
  case atStart => exact ⟨0, Nat.zero_le _, rfl, Drawn.refl _⟩
  case round =>
    obtain ⟨k, hk, rfl, q, rfl⟩ := hrel
    by_cases hkn : k < n
    · obtain ⟨t, ht⟩ : ∃ t, l[k]? = some t := ⟨l[k]'(by rw [← HN.out]; exact hkn), List.getElem?_eq_getElem _⟩
      obtain ⟨g1, rfl, _, _, hcell1⟩ := OwnToks.at2 H1.out HN.out k t ht
      obtain ⟨g2, rfl, _, _, hcell2⟩ := OwnToks.at2 H2.out HN.out k t ht
      have k0 := hcell1 0 (by decide)
      have k1 := hcell1 1 (by decide)
      have k2 := hcell1 2 (by decide)
      have k3 := hcell1 3 (by decide)
      have k4 := hcell1 4 (by decide)
      have k5 := hcell1 5 (by decide)
      have k6 := hcell1 6 (by decide)
      have m0 := hcell2 0 (by decide)
      have m1 := hcell2 1 (by decide)
      have m2 := hcell2 2 (by decide)
      have m3 := hcell2 3 (by decide)
      have m4 := hcell2 4 (by decide)
      have m5 := hcell2 5 (by decide)
      have m6 := hcell2 6 (by decide)
      simp only [tokC, List.getElem?_cons_succ, List.getElem?_cons_zero, Nat.add_zero] at k0 k1 k2 k3 k4 k5 k6 m0 m1 m2 m3 m4 m5 m6
      have hj0 : (0 : Int) ≤ (k : Int) := by omega
      have hj1 : (k : Int) < (n : Int) := by omega
      clear ht hcell1 hcell2
      go_wp2_with fail
      go_quiet (fail)
      go_wp2_with fail
      go_roundw
      case rel => exact ⟨k + 1, by omega, by go_num, Drawn.n _ _⟩
      case measure => simp [intOf]; omega
    · obtain rfl : k = n := by omega
      go_wp2_with fail
      go_ret
      exact ⟨rfl, Drawn.n _ _⟩
end Go.Proofs.YtcdmkmbbliaefaaGreatDoor
