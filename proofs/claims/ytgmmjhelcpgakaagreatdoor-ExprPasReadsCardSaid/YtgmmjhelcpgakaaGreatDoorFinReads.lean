/- The law ExprPasReads: for every input it answers true, and the input reads behind the call as it read before: its row, and the card that ties the listed variables of Go's library to the program's text. Conditions: none beyond the row's own (the listed variables as the text lays them). -/
import Derived.Test.YtgmmjhelcpgakaaGreatDoorGA
import Derived.Test.YtgmmjhelcpgakaaGreatDoorGAm
import Derived.Test.YtgmmjhelcpgakaaGreatDoorGAz
import Derived.Outline
import Derived.Test.YtgmmjhelcpgakaaGreatDoorRows
import Derived.Lib.LaidU8
import Derived.ProofKit
import Derived.Test.YtgmmjhelcpgakaaGreatDoorCards
import Derived.Test.YtgmmjhelcpgakaaGreatDoorTie
import Derived.OpenShut
import Derived.ShutString
import Derived.SizedLaws
import Derived.LaidMore
import Derived.Lay
import Derived.LaidOnce
import Derived.Stop.Joined
import Derived.SevenTiedAt
/- The law ExprPasReads: the walk. -/
namespace Go.Proofs.YtgmmjhelcpgakaaGreatDoor
open Go.RowKit
set_option linter.unusedVariables false
set_option linter.unusedSimpArgs false

theorem readE_long (s : ByteArray) : longE (readE s).1 ≤ 512 := by
  have h0 : longE exNil ≤ 512 := by decide
  unfold readE
  split
  · exact h0
  · unfold parseAt
    cases hr : levAt (lexAll s).toks 0 with
    | bad c p => exact h0
    | ok e j =>
      unfold boundAt
      by_cases h1 : 512 < longE e
      · simp only [if_pos h1]; exact h0
      · by_cases h2 : 48 < deepE e
        · simp only [if_neg h1, if_pos h2]; exact h0
        · simp only [if_neg h1, if_neg h2]
          split
          · exact h0
          · show longE e ≤ 512; omega
set_option maxRecDepth 100000 in
set_option maxHeartbeats 4000000 in
theorem exprPasReads_any (s : ByteArray) (w : World) (hs : s.size ≤ 140737488351232) (hg : Glob w.heap.size w) :
    Calls Tryz.prog 3 #[.string s] w (TruePost w) := by
  have hu28 := Tryz.underlying30
  have hu26 := Tryz.underlying28
  have hu := Tryz.underlying25
  by_cases hbig : 70000 < s.size
  · have ht : decide ((70000 : Int) < (s.size : Int)) = true := by simp; omega
    have HAW := Lib.hid (awake8_any w hg)
    clear hg
    go_enter Tryz.func3, Tryz.ntmps3
    go_wp2_with fail
    refine HAW.out.mono ?_
    rintro e2 w2 ⟨rfl, hb⟩
    go_wp2_with fail
    go_ret
    exact ⟨rfl, hb⟩
  · have ht : decide ((70000 : Int) < (s.size : Int)) = false := by simp; omega
    have hlong := readE_long s
    have HRD := Lib.hid (exread_any s w hs hg)
    have HRF := Lib.hid (fun W => refread_any s W hs)
    obtain ⟨R, hR⟩ : ∃ R, R = readE s := ⟨_, rfl⟩
    rw [← hR] at HRD HRF hlong
    obtain ⟨x, code, pos⟩ := R
    have HG := Lib.hid hg; have HL := Lib.hid hlong
    clear hg hR hbig hlong
    go_enter Tryz.func3, Tryz.ntmps3
    go_wp2_with fail
    refine HRD.out.mono ?_
    rintro e1 w1 ⟨A1, c1, rfl, hr1, hk1⟩
    have HR1 := Lib.hid hr1; have HK1 := Lib.hid hk1
    clear hr1 hk1
    unfold exA diagA
    go_wp2_with fail
    refine (HRF.out _).mono ?_
    rintro e2 w2 ⟨A2, c2, rfl, hr2, hk2⟩
    have HR2 := Lib.hid hr2
    have hb1 := hk2.blk (((Blk.new w1 #[.int .i64 x.op, .int .i64 x.num, .string x.name, .string x.field, .slice A1 x.list.length c1] 25).alloc _)) (fun h => h)
    have hb2 := hk2.blk (Blk.new' (n := w1.heap.size + 1) (by simp) _ _) (fun h => h)
    have HK2 := Lib.hid ((((Keep.refl (fun _ => False) w1).alloc _).alloc _).trans hk2)
    have HB1 := Lib.hid hb1; have HB2 := Lib.hid hb2
    clear hr2 hk2
    have a1 := hb1.all5
    have a2 := hb2.all4
    have l1 := hb1.lt
    have l2 := hb2.lt
    clear hb1 hb2
    unfold exA diagA
    go_wp2_with fail
    have hk0 : ∀ a b : Obj, Keep (fun _ => False) w2 ((w2.alloc a).alloc b) := fun a b => ((Keep.refl _ _).alloc _).alloc _
    refine (same_any _ x (Nat.le_refl _) (by have := HL.out; omega) x A1 A2 c1 c2 _ _ _ ((HR1.out.keepF HK2.out).keepF (hk0 _ _)) (HR2.out.keepF (hk0 _ _))).mono ?_
    rintro e3 w3 ⟨rfl, hk3⟩
    rw [sameEx_refl]
    have hb2 := ((hk0 _ _).trans hk3).blk HB2.out (fun h => h)
    have hb4 := hk3.blk (Blk.new' (n := w2.heap.size + 1) (by simp) _ _) (fun h => h)
    have HK3 := Lib.hid (((HK1.out.trans HK2.out).trans (hk0 _ _)).trans hk3)
    clear a1 a2 l1 l2 hk3 hk0
    have a2 := hb2.all4
    have l2 := hb2.lt
    have a4 := hb4.all4
    have l4 := hb4.lt
    clear hb2 hb4
    go_wp2_with fail
    refine (awake8_any w3 (globW HG.out HK3.out)).mono ?_
    rintro e4 w4 ⟨rfl, hk4⟩
    have HK4 := Lib.hid (HK3.out.trans hk4)
    clear hk4
    go_wp2_with fail
    go_ret
    exact ⟨rfl, HK4.out⟩
end Go.Proofs.YtgmmjhelcpgakaaGreatDoor
/- What the rows list gives the walks: the library's variables as they are laid. -/
namespace Go.Proofs.YtgmmjhelcpgakaaGreatDoor
open Go.RowKit
set_option linter.unusedVariables false
set_option linter.unusedSimpArgs false

theorem tab_of_reads {W : World} {name : String} {k : IntKind} {zs : List Int} {g : Nat} {t e : TypeId} {n : Nat}
    (hg : Tryz.prog.globalNamed name = some g) (hty : (Tryz.prog.globals[g]?).map (·.type) = some t) (ht : Tryz.prog.underlying t = some (.array n e)) (he : Tryz.prog.underlying e = some (.int k)) (hce : Tryz.prog.cellsOf e = 1) (hct : Tryz.prog.cellsOf t = n)
    (h : Lib.VarReads Tryz.prog W name (Lib.tabData k zs)) : Lib.TabIs Tryz.prog W name k zs := by
  obtain ⟨g', t', cs, fuel, p, hg', ht', hvar, hd⟩ := h
  obtain rfl := Option.some.inj (hg.symm.trans hg')
  obtain rfl := Option.some.inj (hty.symm.trans ht')
  unfold Lib.TabIs
  rw [hvar, ← Lib.cells_of_tab ht he hce hct hd]
theorem err_of_reads {W : World} {name : String} {d : DataW Unit} {g : Nat} {t : TypeId} {ms : Array (String × TypeId)}
    (hg : Tryz.prog.globalNamed name = some g) (hty : (Tryz.prog.globals[g]?).map (·.type) = some t) (ht : Tryz.prog.underlying t = some (.interface ms)) (h : Lib.VarReads Tryz.prog W name d) :
    ∃ ev, W.cell? ⟨g, 0, none⟩ = some ev ∧ (ev = .nilIface ∨ ∃ te pe, ev = .iface te pe) := by
  obtain ⟨g', t', cs, fuel, p, hg', ht', hvar, hd⟩ := h
  obtain rfl := Option.some.inj (hg.symm.trans hg')
  obtain rfl := Option.some.inj (hty.symm.trans ht')
  have hc := World.var?_cell hg hvar 0
  cases fuel with
  | zero => simp [DataW.trod] at hd
  | succ fuel =>
    unfold DataW.trod at hd
    simp only [ht] at hd
    split at hd
    all_goals first
      | (rename_i h1 h2; cases h1; done)
      | (rename_i h1 h2; exact ⟨.nilIface, by rw [hc, ← Array.getElem?_toList, h2]; rfl, .inl rfl⟩)
      | (rename_i h1 h2; exact ⟨_, by rw [hc, ← Array.getElem?_toList, h2]; rfl, .inr ⟨_, _, rfl⟩⟩)
      | (cases hd; done)
      | (rename_i h1; cases h1; done)
theorem globNamed3 : Tryz.prog.globalNamed "strconv.ErrSyntax" = some 3 := by kernel_rfl
theorem globNamed4 : Tryz.prog.globalNamed "strconv.ErrRange" = some 4 := by kernel_rfl
theorem space_data : (Rows.laid_strings_asciiSpace : DataW Unit) = Lib.tabData .u8 Lib.asciiSpaceTab := by kernel_rfl
theorem pow_data : (Rows.laid_internal_strconv_uint64pow10 : DataW Unit) = Lib.tabData .u64 Lib.pow10Tab := by kernel_rfl
theorem globTypes : (Tryz.prog.globals[5]?).map (·.type) = some 240 := by kernel_rfl
theorem glob_of_laid {W : World} {L : List (String × DataW Unit)} (h : laidMet Tryz.prog L W)
    (m1 : ("strings.asciiSpace", (Rows.laid_strings_asciiSpace : DataW Unit)) ∈ L) (m2 : ("internal/strconv.uint64pow10", (Rows.laid_internal_strconv_uint64pow10 : DataW Unit)) ∈ L)
    (m3 : ("strconv.ErrSyntax", (Rows.laid_strconv_ErrSyntax : DataW Unit)) ∈ L) (m4 : ("strconv.ErrRange", (Rows.laid_strconv_ErrRange : DataW Unit)) ∈ L) : Glob W.heap.size W := by
  have r1 := Lib.laidMet.reads h m1
  have r2 := Lib.laidMet.reads h m2
  rw [space_data] at r1
  rw [pow_data] at r2
  have t1 := tab_of_reads globNamed1 globTypes Tryz.underlying240 Tryz.underlying5 (by kernel_rfl) (by kernel_rfl) r1
  have t2 := tab_of_reads globNamed2 (show (Tryz.prog.globals[1]?).map (·.type) = some 223 by kernel_rfl) Tryz.underlying223 Tryz.underlying162 (by kernel_rfl) (by kernel_rfl) r2
  obtain ⟨e3, c3, f3⟩ := err_of_reads globNamed3 (show (Tryz.prog.globals[3]?).map (·.type) = some 154 by kernel_rfl) Tryz.underlying154 (Lib.laidMet.reads h m3)
  obtain ⟨e4, c4, f4⟩ := err_of_reads globNamed4 (show (Tryz.prog.globals[4]?).map (·.type) = some 154 by kernel_rfl) Tryz.underlying154 (Lib.laidMet.reads h m4)
  have lt_of : ∀ (n : String) (g : Nat), Tryz.prog.globalNamed n = some g → (W.var? Tryz.prog n).isSome = true → g < W.heap.size := by
    intro n g hn hs
    simp only [World.var?, hn, Option.bind_some] at hs
    rcases Nat.lt_or_ge g W.heap.size with h' | h'
    · exact h'
    · rw [Array.getElem?_eq_none h'] at hs; simp at hs
  refine ⟨t1, t2, ⟨e3, c3, f3⟩, ⟨e4, c4, f4⟩, lt_of _ _ globNamed1 (by rw [t1]; rfl), lt_of _ _ globNamed2 (by rw [t2]; rfl), World.block_lt_of_cell? W _ c3, World.block_lt_of_cell? W _ c4⟩
end Go.Proofs.YtgmmjhelcpgakaaGreatDoor
namespace Go.Proofs.YtgmmjhelcpgakaaGreatDoor.exprPasReads
open Go.ChangeShapes Go.WideShapes Go.ChangeAt Go.RowKit Go.Lib
open Go.ChangeMaps (open_string shut_string)
set_option linter.unusedVariables false

theorem own : ownKnob Tryz.prog.godebug = none := by kernel_rfl
set_option maxRecDepth 100000 in
theorem lifted (os : Os) (started : os.Started) (H : Type) (enc : TypeId × Value → H) :
    ReturnsInHanded {} Tryz.checked os 3 .any (fun w args => (Rows.exprPasReadsSpec.pre enc Tryz.prog Tryz.f3 [] false w args ∧ laidMetH Tryz.prog Rows.exprPasReadsRow.laid w) ∧ sizedMet enc Tryz.prog Tryz.f3 (OpenSpec.ofChange Rows.exprPasReadsSpec) false w args)
      (Rows.exprPasReadsSpec.post enc Tryz.prog Tryz.f3 false true false false) := by
  refine returnsInHanded_of_change_and (C := Tryz.checked) (X := fun w _ => laidMetH Tryz.prog Rows.exprPasReadsRow.laid w) (fun _ _ _ hh h => h.of_heap hh) own started (by kernel_rfl) Tryz.func3
    (ChangeSpec.witness_shaped (enc := enc) (C := Tryz.checked) (os := os) (X := fun w _ => laidMetH Tryz.prog Rows.exprPasReadsRow.laid w) false (World.laidAll Tryz.prog os Rows.exprPasReadsRow.laid) #[.string ByteArray.empty] 8 (World.laidAll_os _ _ _)
      (World.shaped_of_ZipB (by kernel_rfl) (by kernel_rfl)) (by kernel_rfl) (by kernel_rfl) (by kernel_rfl)
      (by rw [MakeChecks.laidMetH_plain _ _ _ (by kernel_rfl)]; exact laidMet_laidAll _ (by kernel_rfl) (by kernel_rfl))) ?_
  intro W base args ds gs before hval0 hW _ hsz0 hL _
  have hval : ∀ (j : Nat) t v, Tryz.f3.params[j]? = some t → args[j]? = some v → Value.okWide Tryz.prog W .any base t v := hval0
  have hsz : (DataW.weightsEach Tryz.prog (Tryz.f3.params.toList ++ Rows.exprPasReadsSpec.plain.varTypes Tryz.prog) (ds ++ gs)).all (· ≤ reachBytes) = true := hsz0
  have hW' := hW
  obtain ⟨p, q, hA0, hV, rfl, _, _⟩ := hW
  have hA : DataW.TrodAll enc Tryz.prog W 0 (fun _ => true) true Tryz.f3.params.toList args.toList ds p := hA0
  rw [Tryz.params3] at hA hval hsz
  obtain ⟨v0, vs0, d0, ds0, p0, q0, hargs, rfl, rfl, h0, r0⟩ := trodAll_cons hA
  obtain ⟨rfl, rfl, rfl⟩ := trodAll_nil r0
  obtain rfl : args = #[v0] := by cases args; simp_all
  obtain ⟨rfl, rfl⟩ := trodVars_none hV
  obtain ⟨a0, rfl, rfl, rfl, y0⟩ := open_string Tryz.underlying9 (hval 0 9 v0 rfl rfl) h0
  have w0 : a0.size ≤ 140737488351232 := by
    have z := sized_string hsz (j := 0) (t := 9) rfl rfl
    rw [Array.length_toList] at z
    exact z
  clear hA0 hval0 hsz0 hsz
  rw [MakeChecks.laidMetH_plain _ _ _ (by kernel_rfl)] at hL
  have hG : Glob W.heap.size W := glob_of_laid hL (by simp [Rows.exprPasReadsRow]) (by simp [Rows.exprPasReadsRow]) (by simp [Rows.exprPasReadsRow]) (by simp [Rows.exprPasReadsRow])
  refine (exprPasReads_any a0 W w0 hG).mono fun e W' ⟨he, kp⟩ => ?_
  have bel : Below W.heap.size W W' := kp.belowB (Nat.le_refl _)
  subst he
  exact ⟨_, rfl, _, _, _, [], _, [], hW', trodAll_mk1 (shut_bool Tryz.underlying4 _), (trodAll_cons_mk (shut_string Tryz.underlying9 y0) trodAll_mk0), rfl, bel.frame _, fun h => by cases h⟩
theorem over : Rows.exprPasReadsRow.holds Tryz.pinned (OpenSpec.ofChange Rows.exprPasReadsSpec) :=
  OpenClaim.holds_of_wide 3 Tryz.f3 rfl rfl rfl rfl rfl rfl rfl ⟨rfl, rfl, rfl, rfl, rfl⟩ rfl rfl rfl rfl rfl (by kernel_rfl) Tryz.func3 (by kernel_rfl)
    (of_decide_eq_true (by kernel_rfl)) (by unfold Func.isWrapper; first | (rw [if_pos (by decide +kernel)]; kernel_rfl) | (rw [if_neg (by decide +kernel)]; exact ⟨rfl, rfl⟩))
    (fun os started H enc _ => lifted os started H enc)
theorem proved : Rows.ExprPasReadsSaid := over
theorem carded : Rows.ExprPasReadsCardSaid :=
  Claim7.holds_tied_plain_at .later [] [.data, .data, .data, .data, .sentinel, .sentinel, .listed, .data, .pinned, .pinned] true (true, "e8fae074b7593f3b881103c13f815a26967287ddf004a34f54198e15b970721f") true
    proved (fun _ h => by cases h) (by kernel_rfl) (fun _ h => by cases h) exprPasReads_row_tie rfl ⟨rfl, rfl⟩ (by kernel_rfl) rfl
    (fun f fn hf hfn => by
      obtain rfl : f = 3 := Option.some.inj ((show Tryz.prog.funcNamed "pantograph/pantographlaw08.ExprPasReads" = some 3 by kernel_rfl).symm.trans hf) |>.symm
      obtain rfl : fn = Tryz.f3 := (Option.some.inj (Tryz.func3.symm.trans hfn)).symm
      exact ⟨by kernel_rfl, fun j t ht => by
        rw [Tryz.params3] at ht
        have hm : t ∈ [9] := by simpa using Array.mem_of_getElem? ht
        have hall : ([9].all fun u => !Tryz.prog.wantsStandIn u) = true := by kernel_rfl
        exact (show Tryz.prog.wantsStandIn t = false by simpa using List.all_eq_true.1 hall t hm)⟩)
    (by kernel_rfl)
#print axioms carded
end Go.Proofs.YtgmmjhelcpgakaaGreatDoor.exprPasReads
namespace Go.Proofs.YtgmmjhelcpgakaaGreatDoor
/-- The card, under a short name, for the claim. -/
theorem exprPasReads_holds : Rows.ExprPasReadsCardSaid := exprPasReads.carded
end Go.Proofs.YtgmmjhelcpgakaaGreatDoor
