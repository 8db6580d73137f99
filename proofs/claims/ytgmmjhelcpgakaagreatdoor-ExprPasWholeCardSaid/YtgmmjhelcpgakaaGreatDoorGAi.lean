/- Rows of expressions that a call makes itself; the reader goes ahead alone. -/
import Derived.Test.YtgmmjhelcpgakaaGreatDoorGX
import Derived.Deep.AppendLies
import Derived.Deep.RegionLaw
import Derived.Deep.RegionHeld3
namespace Go.Proofs.YtgmmjhelcpgakaaGreatDoor
open Go.RowKit
set_option linter.unusedVariables false
set_option linter.unusedSimpArgs false

theorem takeS_at (l : List TokL) (st : RS) (ts : List ByteArray) : st.at_ ≤ (takeS l st ts).at_ := by unfold takeS RS.up; split <;> simp
theorem failP_at (st : RS) (c : Nat) (p : Pos3) : (failP st c p).at_ = st.at_ := by unfold failP; split <;> rfl
theorem nameS_at (l : List TokL) (st : RS) : st.at_ ≤ (nameS l st).at_ := by
  unfold nameS; split
  · simp [RS.up]
  · unfold wrongP; rw [failP_at]; exact Nat.le_refl _
theorem mustS_at (l : List TokL) (st : RS) (s : ByteArray) : st.at_ ≤ (mustS l st s).at_ := by
  unfold mustS; split
  · simp [RS.up]
  · unfold wrongP; rw [failP_at]; exact Nat.le_refl _
theorem addS_at (l : List TokL) (st : RS) (s : ByteArray) : st.at_ ≤ (addS l st s).at_ := by
  unfold addS; split
  · exact takeS_at _ _ _
  · exact Nat.le_refl _
theorem mulS_at (l : List TokL) (st : RS) (s : ByteArray) : st.at_ ≤ (mulS l st s).at_ := by
  unfold mulS; split
  · exact takeS_at _ _ _
  · exact Nat.le_refl _
theorem pm_at (l : List TokL) : ∀ (f : Nat) (g : Pg) (st : RS) (e : Ex) (st' : RS), pm l f g st = some (e, st') → st.at_ ≤ st'.at_ := by
  intro f
  induction f with
  | zero => intro g st e st' h; cases h
  | succ f ih =>
    intro g st e st' h
    have done : ∀ {x : Ex} {s : RS}, (some (x, s) : Option (Ex × RS)) = some (e, st') → s = st' := fun h => by injection h with h; injection h
    cases g with
    | expr =>
      rw [pm] at h
      obtain ⟨e1, s1, h1, h2⟩ := thn_some h
      have a1 := ih _ _ _ _ h1
      split at h2
      · obtain ⟨e2, s2, h3, h4⟩ := thn_some h2
        have a2 := ih _ _ _ _ h3
        rw [← done h4]
        have := takeS_at l s1 rels; omega
      · rw [← done h2]; exact a1
    | simple =>
      rw [pm] at h
      obtain ⟨e1, s1, h1, h2⟩ := thn_some h
      have a1 := ih _ _ _ _ h1
      have a2 := ih _ _ _ _ h2
      have := takeS_at l st [gMinus]; omega
    | simpleL x =>
      rw [pm] at h
      split at h
      · obtain ⟨e1, s1, h1, h2⟩ := thn_some h
        have a1 := ih _ _ _ _ h1
        have a2 := ih _ _ _ _ h2
        have a3 := takeS_at l st adds
        have := addS_at l (takeS l st adds) (takeT l st adds); omega
      · rw [← done h]; exact Nat.le_refl _
    | term =>
      rw [pm] at h
      obtain ⟨e1, s1, h1, h2⟩ := thn_some h
      have a1 := ih _ _ _ _ h1
      have a2 := ih _ _ _ _ h2
      omega
    | termL x =>
      rw [pm] at h
      split at h
      · obtain ⟨e1, s1, h1, h2⟩ := thn_some h
        have a1 := ih _ _ _ _ h1
        have a2 := ih _ _ _ _ h2
        have a3 := takeS_at l st muls
        have := mulS_at l (takeS l st muls) (takeT l st muls); omega
      · rw [← done h]; exact Nat.le_refl _
    | factor =>
      rw [pm] at h
      split at h
      · obtain ⟨e1, s1, h1, h2⟩ := thn_some h
        have a1 := ih _ _ _ _ h1
        rw [← done h2]
        have := takeS_at l st [wNot]; omega
      split at h
      · obtain ⟨e1, s1, h1, h2⟩ := thn_some h
        have a1 := ih _ _ _ _ h1
        rw [← done h2]
        have := takeS_at l st [gOpen]
        have := mustS_at l s1 gClose; omega
      split at h
      · rw [← done h]; exact takeS_at _ _ _
      split at h
      · rw [← done h]; simp [RS.up]
      split at h
      · rw [← done h]; simp [RS.up]
      exact ih _ _ _ _ h
    | named =>
      rw [pm] at h
      have a0 := nameS_at l st
      have a1 := takeS_at l (nameS l st) [gOpen, gOpenB, gDot]
      split at h
      · split at h
        · obtain ⟨e1, s1, h1, h2⟩ := thn_some h
          have a2 := ih _ _ _ _ h1
          rw [← done h2]; omega
        · split at h
          · obtain ⟨e1, s1, h1, h2⟩ := thn_some h
            have a2 := ih _ _ _ _ h1
            rw [← done h2]
            have := mustS_at l s1 gCloseB; omega
          · rw [← done h]
            have := nameS_at l (takeS l (nameS l st) [gOpen, gOpenB, gDot]); omega
      · rw [← done h]; exact a0
    | operands =>
      rw [pm] at h
      split at h
      · rw [← done h]; exact takeS_at _ _ _
      · obtain ⟨e1, s1, h1, h2⟩ := thn_some h
        have a1 := ih _ _ _ _ h1
        have a2 := ih _ _ _ _ h2
        omega
    | operandsL es =>
      rw [pm] at h
      split at h
      · obtain ⟨e1, s1, h1, h2⟩ := thn_some h
        have a1 := ih _ _ _ _ h1
        have a2 := ih _ _ _ _ h2
        have := takeS_at l st [gComma]; omega
      · rw [← done h]; exact mustS_at _ _ _

/-- The cells of some expressions, one behind the other. -/
inductive CellsOf (S : Nat → Prop) (w : World) : List Ex → List Value → Prop
  | nil : CellsOf S w [] []
  | snoc {es xs e A c} (h : CellsOf S w es xs) (hr : RdRow S w e.list A) : CellsOf S w (es ++ [e]) (xs ++ (exA e A c).toList)
theorem CellsOf.len {S : Nat → Prop} {w : World} {es : List Ex} {xs : List Value} (h : CellsOf S w es xs) : xs.length = es.length * 5 := by
  induction h with
  | nil => rfl
  | snoc h hr ih => rw [List.length_append, List.length_append, ih]; show _ + 5 = _; simp only [List.length_singleton]; omega
theorem CellsOf.keep {P S : Nat → Prop} {w w' : World} {es : List Ex} {xs : List Value} (h : CellsOf S w es xs) (hk : Keep P w w') (hp : ∀ k, P k → ¬ S k) : CellsOf S w' es xs := by
  induction h with
  | nil => exact .nil
  | snoc h hr ih => exact .snoc ih (hr.keep hk hp)
theorem CellsOf.mono {S S' : Nat → Prop} {w : World} {es : List Ex} {xs : List Value} (h : CellsOf S w es xs) (hs : ∀ k, k < w.heap.size → S k → S' k) : CellsOf S' w es xs := by
  induction h with
  | nil => exact .nil
  | snoc h hr ih => exact .snoc ih (hr.mono hs)
theorem CellsOf.row {S : Nat → Prop} {w : World} {g : Nat} {es : List Ex} {xs : List Value} (h : CellsOf S w es xs) : (∀ i v, xs[i]? = some v → w.cell? ⟨g, i, none⟩ = some v) → RdCs S w g 0 es := by
  induction h with
  | nil => intro _; rw [RdCs]; trivial
  | @snoc es xs e A c h hr ih =>
    intro hc
    have hl := h.len
    refine RdCs.snoc (ih fun i v hi => hc i v ?_) e A c hr fun j hj => ?_
    · rw [List.getElem?_append_left]
      · exact hi
      · exact (List.getElem?_eq_some_iff.1 hi).1
    · have h1 : (xs ++ (exA e A c).toList)[es.length * 5 + j]? = (exA e A c).toList[j]? := by
        rw [List.getElem?_append_right (by omega), hl]; congr 1; omega
      obtain ⟨v, hv⟩ : ∃ v, (exA e A c).toList[j]? = some v := ⟨_, List.getElem?_eq_getElem (by show j < 5; exact hj)⟩
      rw [Nat.zero_add, hc _ v (by rw [h1]; exact hv), ← hv]; simp
theorem info_ex : (Tryz.prog.info? 25).map (fun i => (i.zero, i.size, i.bytes)) = some (some (.agg #[(.int .i64 0), (.int .i64 0), (.string ⟨#[]⟩), (.string ⟨#[]⟩), (.slice none 0 0)]), 5, 72) := by kernel_rfl
/-- A row of expressions, made here. -/
def OwnEx (B : Nat) (w : World) (g cap : Nat) (es : List Ex) : Prop := ∃ xs, w.ownsRow B 25 5 (.slice (some ⟨g, 0, none⟩) es.length cap) es.length xs ∧ CellsOf (fun k => B ≤ k ∧ k ≠ g) w es xs
theorem OwnEx.row {B : Nat} {w : World} {g cap : Nat} {es : List Ex} (h : OwnEx B w g cap es) : RdRow (B ≤ ·) w es (some ⟨g, 0, none⟩) := by
  obtain ⟨xs, h1, h2⟩ := h
  intro hne
  have hB : B ≤ g := (World.ownsRow.lt h1 g rfl).1
  refine ⟨g, 0, rfl, hB, (h2.row fun i v hi => ?_).mono (fun k _ h => h.1)⟩
  have := World.ownsRow.cells h1 (g := g) rfl i v hi
  have ha : (⟨g, 0, none⟩ : Addr).add i = ⟨g, 0 + i, none⟩ := by unfold Addr.add; split <;> simp_all
  rw [ha, Nat.zero_add] at this
  exact this
theorem OwnEx.lt {B : Nat} {w : World} {g cap : Nat} {es : List Ex} (h : OwnEx B w g cap es) : B ≤ g ∧ g < w.heap.size := by
  obtain ⟨xs, h1, h2⟩ := h
  exact World.ownsRow.lt h1 g rfl
theorem OwnEx.keep {P : Nat → Prop} {B : Nat} {w w' : World} {g cap : Nat} {es : List Ex} (h : OwnEx B w g cap es) (hk : Keep P w w') (hp : ∀ k, P k → k < B) : OwnEx B w' g cap es := by
  have hlt := h.lt
  obtain ⟨xs, h1, h2⟩ := h
  exact ⟨xs, ownsRow_keep h1 hk (fun k hk hpk => by have h3 : g = k := by simpa [Value.ownBlock] using hk
                                                    have := hp k hpk; omega), h2.keep hk fun k h3 h4 => by have := hp k h3; omega⟩
/-- A row of one. -/
theorem OwnEx.one {B : Nat} {w : World} {b : Nat} {e : Ex} {A : Option Addr} {c : Nat} (hB : B ≤ b) (hr : RdRow (fun k => B ≤ k ∧ k ≠ b) w e.list A) (hb : Blk w b (exA e A c) 25) : OwnEx B w b 1 [e] := by
  refine ⟨(exA e A c).toList, ⟨rfl, .inr ⟨b, 1, exA e A c, rfl, hB, hb, Nat.le_refl _, by decide, rfl, ?_⟩⟩, ?_⟩
  · rfl
  · exact CellsOf.snoc (es := []) (xs := []) .nil hr
end Go.Proofs.YtgmmjhelcpgakaaGreatDoor
/- Package exprpas: operands. -/
namespace Go.Proofs.YtgmmjhelcpgakaaGreatDoor
open Go.RowKit
set_option linter.unusedVariables false
set_option linter.unusedSimpArgs false

set_option maxRecDepth 100000 in
set_option maxHeartbeats 16000000 in
theorem operands_any (l : List TokL) (b g c : Nat) (f : Nat) (ihe : ∀ f', f' < f → Does l b g c 48 .expr f') : DoesO l b g c f := by
  intro st w e st' hrd hpm
  have hu := Tryz.underlying25
  obtain ⟨i0, hi0, hz0, hz1, hz2⟩ := info_parts info_ex
  cases f with
  | zero => cases hpm
  | succ f =>
    rw [pm] at hpm
    have HE := Lib.hid ihe
    have HRD := Lib.hid hrd
    have hbw := hrd.blk.lt
    have hgw := hrd.glt
    have HPM := Lib.hid hpm
    clear hpm ihe hrd
    go_enter Tryz.func203, Tryz.ntmps203
    go_wp2_with fail
    obtain ⟨W0, hWW0⟩ : ∃ W0, W0 = w.alloc (.cells #[.string gClose] 9) := ⟨_, rfl⟩
    rw [← hWW0]
    have HBW0 := Lib.hid (show Blk W0 w.heap.size #[.string gClose] 9 by rw [hWW0]; exact Blk.new _ _ _)
    have HAW0 := Lib.hid (show Keep (fun _ => False) w W0 by rw [hWW0]; exact (Keep.refl _ _).alloc _)
    have HZW0 := Lib.hid (show W0.heap.size = w.heap.size + 1 by rw [hWW0]; simp)
    clear hWW0
    refine (take_any b g c l st w.heap.size 1 1 [gClose] W0 (HRD.out.keepF HAW0.out) (textR_blk HBW0.out) rfl (by decide)).mono ?_
    rintro en w1 ⟨rfl, hrdx, hkx⟩
    have HRD1 := Lib.hid hrdx
    have HK1 := Lib.hid ((HAW0.out.mono (Q := (· = b)) (fun _ _ h => h.elim)).trans hkx)
    clear hrdx hkx
    cases hp : isP l st [gClose] with
    | true =>
      have hpm := HPM.out
      rw [hp, if_pos rfl] at hpm
      obtain ⟨rfl, hs⟩ : carry [] = e ∧ takeS l st [gClose] = st' := by injection hpm with h; injection h with h1 h2; exact ⟨h1, h2⟩
      rw [hs] at HRD1
      clear hpm hs hp HPM
      go_wp2_with fail
      go_ret
      exact ⟨none, 0, rfl, RdRow.nil _ _ _, HRD1.out, HK1.out⟩
    | false =>
      have hS : takeS l st [gClose] = st := by unfold takeS; rw [hp]; rfl
      rw [hS] at HRD1
      have hpm := HPM.out
      rw [hp, if_neg (by decide)] at hpm
      obtain ⟨e1, s1, hp1, hp2⟩ := thn_some hpm
      have HP1 := Lib.hid hp1; have HP2 := Lib.hid hp2
      clear hpm hS hp1 hp2 hp HPM
      go_wp2_with fail
      refine (HE.out f (by omega) st w1 e1 s1 HRD1.out HP1.out).mono ?_
      rintro en w2 ⟨A1, cc1, rfl, hrow2, hrd2, hk2⟩
      have HROW2 := Lib.hid hrow2; have HRD2 := Lib.hid hrd2; have HK2 := Lib.hid hk2
      clear hrow2 hrd2 hk2
      unfold exA
      go_wp2_with fail
      obtain ⟨W3, hWW3⟩ : ∃ W3, W3 = w2.alloc (.cells #[.int .i64 e1.op, .int .i64 e1.num, .string e1.name, .string e1.field, .slice A1 e1.list.length cc1] 25) := ⟨_, rfl⟩
      rw [← hWW3]
      have HBW3 := Lib.hid (show Blk W3 w2.heap.size #[.int .i64 e1.op, .int .i64 e1.num, .string e1.name, .string e1.field, .slice A1 e1.list.length cc1] 25 by rw [hWW3]; exact Blk.new _ _ _)
      have HAW3 := Lib.hid (show Keep (fun _ => False) w2 W3 by rw [hWW3]; exact (Keep.refl _ _).alloc _)
      have HZW3 := Lib.hid (show W3.heap.size = w2.heap.size + 1 by rw [hWW3]; simp)
      clear hWW3
      have HOWN3 := Lib.hid (OwnEx.one (B := w.heap.size) (w := W3) (b := w2.heap.size) (e := e1) (A := A1) (c := cc1) (by have := HK1.out.size; have := HK2.out.size; omega) ((HROW2.out.mono (S' := fun k => w.heap.size ≤ k ∧ k ≠ w2.heap.size) fun k hk h => ⟨by have h : w1.heap.size ≤ k := h; have := HK1.out.size; omega, Nat.ne_of_lt hk⟩).keepF HAW3.out) HBW3.out)
      have HRD3 := Lib.hid (HRD2.out.keepF HAW3.out)
      have HK3 := Lib.hid ((HK1.out.trans HK2.out).trans (HAW3.out.mono (fun _ _ h => h.elim)))
      have ha1 := pm_at l _ _ _ _ _ HP1.out
      go_loopg [5] f (fun n v5 wr => ∃ (es : List Ex) (sk : RS) (g5 cap : Nat), v5 = .slice (some ⟨g5, 0, none⟩) es.length cap ∧ OwnEx w.heap.size wr g5 cap es ∧ Rdr wr b g c l sk ∧ Keep (· = b) w wr ∧ es.length ≤ sk.at_ + 1 ∧ n < f + 1 ∧ Hid (pm l n (.operandsL es) sk = some (e, st')))
      case atStart => exact ⟨[e1], s1, w2.heap.size, 1, rfl, HOWN3.out, HRD3.out, HK3.out, by simp, by omega, HP2.out⟩
      case round =>
        obtain ⟨es, sk, g5, cap, rfl, hown, hrd, hkp, hlen, hn, HP⟩ := hrel
        have HOWN := Lib.hid hown; have HRDk := Lib.hid hrd; have HKP := Lib.hid hkp
        have hbl := hrd.blk.lt
        have hatl := hrd.at_
        have hbig := hrd.big
        clear hown hrd hkp
        cases gk with
        | zero => exact absurd HP.out (by rw [pm]; simp)
        | succ n =>
        go_wp2_with fail
        obtain ⟨Wa, hWWa⟩ : ∃ Wa, Wa = wr.alloc (.cells #[.string gComma] 9) := ⟨_, rfl⟩
        rw [← hWWa]
        have HBWa := Lib.hid (show Blk Wa wr.heap.size #[.string gComma] 9 by rw [hWWa]; exact Blk.new _ _ _)
        have HAWa := Lib.hid (show Keep (fun _ => False) wr Wa by rw [hWWa]; exact (Keep.refl _ _).alloc _)
        have HZWa := Lib.hid (show Wa.heap.size = wr.heap.size + 1 by rw [hWWa]; simp)
        clear hWWa
        refine (take_any b g c l sk wr.heap.size 1 1 [gComma] Wa (HRDk.out.keepF HAWa.out) (textR_blk HBWa.out) rfl (by decide)).mono ?_
        rintro en wa ⟨rfl, hrdx, hkx⟩
        have HRDa := Lib.hid hrdx
        have HKa := Lib.hid ((HAWa.out.mono (Q := (· = b)) (fun _ _ h => h.elim)).trans hkx)
        clear hrdx hkx
        cases hp : isP l sk [gComma] with
        | false =>
          have hT : takeT l sk [gComma] = eS := by unfold takeT; rw [hp]; rfl
          have hS : takeS l sk [gComma] = sk := by unfold takeS; rw [hp]; rfl
          rw [hS] at HRDa
          rw [hT]
          have hpm := HP.out
          rw [pm, hp, if_neg (by decide)] at hpm
          obtain ⟨rfl, rfl⟩ : carry es = e ∧ mustS l sk gClose = st' := by injection hpm with h; injection h with h1 h2; exact ⟨h1, h2⟩
          clear hpm hT hS hp
          have hba : b < wa.heap.size := HRDa.out.blk.lt
          go_wp2_with fail
          obtain ⟨Wb, hWWb⟩ : ∃ Wb, Wb = wa.alloc (.cells #[.string gClose] 9) := ⟨_, rfl⟩
          rw [← hWWb]
          have HBWb := Lib.hid (show Blk Wb wa.heap.size #[.string gClose] 9 by rw [hWWb]; exact Blk.new _ _ _)
          have HAWb := Lib.hid (show Keep (fun _ => False) wa Wb by rw [hWWb]; exact (Keep.refl _ _).alloc _)
          have HZWb := Lib.hid (show Wb.heap.size = wa.heap.size + 1 by rw [hWWb]; simp)
          clear hWWb
          refine (must_any b g c l sk wa.heap.size 1 1 [gClose] Wb (HRDa.out.keepF HAWb.out) (textR_blk HBWb.out) (by omega) rfl (by decide)).mono ?_
          rintro en wb ⟨rfl, hrdb, hkb⟩
          rw [mustsS_one] at hrdb
          have HRDb := Lib.hid hrdb
          have HKb := Lib.hid (HKa.out.trans ((HAWb.out.mono (Q := (· = b)) (fun _ _ h => h.elim)).trans hkb))
          clear hrdb hkb
          go_wp2_with fail
          go_ret
          exact ⟨some ⟨g5, 0, none⟩, cap, rfl, (HOWN.out.keep HKb.out (fun k hk => by omega)).row, HRDb.out, HKP.out.trans HKb.out⟩
        | true =>
          have hpm := HP.out
          rw [pm, hp, if_pos rfl] at hpm
          obtain ⟨e2, s2, hf2, hl2⟩ := thn_some hpm
          have hT : takeT l sk [gComma] = gComma := by have := isP_text hp; simpa using this
          have hS : takeS l sk [gComma] = sk.up := by unfold takeS; rw [hp]; rfl
          rw [hS] at HRDa hf2
          rw [hT]
          have HF2 := Lib.hid hf2; have HL2 := Lib.hid hl2
          have ha2 := pm_at l _ _ _ _ _ hf2
          have ha3 : sk.up.at_ = sk.at_ + 1 := rfl
          clear hpm hT hS hp hf2 hl2
          go_wp2_with (fail)
          refine (HE.out n (by omega) _ wa e2 s2 HRDa.out HF2.out).mono ?_
          rintro en w5 ⟨A2, cc2, rfl, hrow5, hrd5, hk5⟩
          have HROW5 := Lib.hid hrow5; have HRD5 := Lib.hid hrd5; have HK5 := Lib.hid hk5
          have hat5 := hrd5.at_
          have hown5 := HOWN.out.keep (HKa.out.trans hk5) (fun k hk => by omega)
          have HOWN5 := Lib.hid hown5
          clear hrow5 hrd5 hk5 hown5
          unfold exA
          obtain ⟨xs, how, hcl⟩ := HOWN5.out
          have HOW := Lib.hid how; have HCL := Lib.hid hcl
          clear how hcl
          have HB1 := Lib.hid (show w.heap.size ≤ w5.heap.size by have := HKP.out.size; have := HKa.out.size; have := HK5.out.size; omega)
          go_wp2_with (at_builtin; refine wpList_append_lies _ rfl _ _ 23 rfl w.heap.size 25 i0 _ 5 72 Tryz.underlying23 hi0 hz0 hz1 hz2 rfl (by decide) (.slice (some ⟨g5, 0, none⟩) es.length cap) es.length xs rfl (HOW.out.alloc _) ⟨w5.heap.size, 0, none⟩ 1 1 [.int .i64 e2.op, .int .i64 e2.num, .string e2.name, .string e2.field, .slice A2 e2.list.length cc2] rfl rfl (World.news_of_block (cs := #[.int .i64 e2.op, .int .i64 e2.num, .string e2.name, .string e2.field, .slice A2 e2.list.length cc2]) (t := 25) (fr := (0, 0)) (by exact Blk.new _ _ _)) (by simp [Value.oneCell']) (by omega) (by unfold maxLen; omega) (by omega) (by have := HB1.out; simp; omega) (w5.heap.size + 1) (by simp) ?_)
          intro gg cap2 w6 hown6 hgrow hat hlt6
          have hg5 := HOWN.out.lt
          have hga : wr.heap.size ≤ wa.heap.size := HKa.out.size
          have hgg : gg = g5 ∨ gg = w5.heap.size + 1 := hat.imp (fun h => by simpa [Value.ownBlock] using h.symm) id
          have hkg : Keep (· = g5) w5 w6 := ((Keep.refl (· = g5) w5).alloc _).grown hgrow (fun k hk _ => by simpa [Value.ownBlock] using hk.symm)
          have hg5a : g5 < w5.heap.size := by have := HK5.out.size; omega
          have HOWN6 : Hid (OwnEx w.heap.size w6 gg cap2 (es ++ [e2])) := by
            refine ⟨xs ++ (exA e2 A2 cc2).toList, by rw [List.length_append, List.length_singleton]; exact hown6, .snoc ?_ ?_⟩
            · exact ((HCL.out.mono (S' := fun k => w.heap.size ≤ k ∧ k ≠ g5 ∧ k ≠ gg) fun k hk h => ⟨h.1, h.2, by omega⟩).keep hkg (fun k h1 h2 => h2.2.1 h1)).mono fun k _ h => ⟨h.1, h.2.2⟩
            · exact ((HROW5.out.mono (S' := fun k => w.heap.size ≤ k ∧ k ≠ g5 ∧ k ≠ gg) fun k hk h => ⟨by have h : wa.heap.size ≤ k := h; omega, by have h : wa.heap.size ≤ k := h; omega, by have h : wa.heap.size ≤ k := h; omega⟩).keep hkg (fun k h1 h2 => h2.2.1 h1)).mono fun k _ h => ⟨h.1, h.2.2⟩
          have HRD6 := Lib.hid (HRD5.out.keep hkg (by omega) (by omega))
          have HK6 := Lib.hid ((((HKP.out.trans (HKa.out.trans HK5.out)).mono (Q := fun k => k = b ∨ k = g5) (fun _ _ h => .inl h)).trans (hkg.mono (fun _ _ h => .inr h))).mono (Q := (· = b)) (fun k hk h => by omega))
          clear hown6 hgrow hat hkg hgg
          go_wp2_with fail
          go_roundg n
          case measure => omega
          case rel => exact ⟨es ++ [e2], s2, gg, cap2, by simp, HOWN6.out, HRD6.out, HK6.out, by simp; omega, by omega, HL2.out⟩
end Go.Proofs.YtgmmjhelcpgakaaGreatDoor
