/- What the rows list gives the walks: the library's variables as they are laid. -/
import Derived.Test.YtcdmkmbbliaefaaGreatDoorBase
import Derived.Test.YtcdmkmbbliaefaaGreatDoorRows
import Derived.Lib.LaidU8
import Derived.ProofKit
namespace Go.Proofs.YtcdmkmbbliaefaaGreatDoor
open Go.RowKit
set_option linter.unusedVariables false
set_option linter.unusedSimpArgs false

theorem tab_of_reads {W : World} {name : String} {k : IntKind} {zs : List Int} {g : Nat} {t e : TypeId} {n : Nat}
    (hg : Tryz.prog.globalNamed name = some g) (hty : (Tryz.prog.globals[g]?).map (·.type) = some t) (ht : Tryz.prog.underlying t = some (.array n e)) (he : Tryz.prog.underlying e = some (.int k)) (hce : Tryz.prog.cellsOf e = 1) (hct : Tryz.prog.cellsOf t = n)
    (h : Lib.VarReads Tryz.prog W name (Lib.tabData k zs)) : Lib.TabIs Tryz.prog W name k zs := by
  obtain ⟨g', t', cs, fuel, p, hg', ht', hvar, hd⟩ := h
  obtain rfl := Option.some.inj (hg.symm.trans hg')
  obtain rfl := Option.some.inj (hty.symm.trans ht')
  unfold Lib.TabIs
  rw [hvar, ← Lib.cells_of_tab ht he hce hct hd]
theorem err_of_reads {W : World} {name : String} {d : DataW Unit} {g : Nat} {t : TypeId} {ms : Array (String × TypeId)}
    (hg : Tryz.prog.globalNamed name = some g) (hty : (Tryz.prog.globals[g]?).map (·.type) = some t) (ht : Tryz.prog.underlying t = some (.interface ms)) (h : Lib.VarReads Tryz.prog W name d) :
    ∃ ev, W.cell? ⟨g, 0, none⟩ = some ev ∧ (ev = .nilIface ∨ ∃ te pe, ev = .iface te pe) := by
  obtain ⟨g', t', cs, fuel, p, hg', ht', hvar, hd⟩ := h
  obtain rfl := Option.some.inj (hg.symm.trans hg')
  obtain rfl := Option.some.inj (hty.symm.trans ht')
  have hc := World.var?_cell hg hvar 0
  cases fuel with
  | zero => simp [DataW.trod] at hd
  | succ fuel =>
    unfold DataW.trod at hd
    simp only [ht] at hd
    split at hd
    all_goals first
      | (rename_i h1 h2; cases h1; done)
      | (rename_i h1 h2; exact ⟨.nilIface, by rw [hc, ← Array.getElem?_toList, h2]; rfl, .inl rfl⟩)
      | (rename_i h1 h2; exact ⟨_, by rw [hc, ← Array.getElem?_toList, h2]; rfl, .inr ⟨_, _, rfl⟩⟩)
      | (cases hd; done)
      | (rename_i h1; cases h1; done)
theorem globNamed3 : Tryz.prog.globalNamed "strconv.ErrSyntax" = some 2 := by kernel_rfl
theorem globNamed4 : Tryz.prog.globalNamed "strconv.ErrRange" = some 3 := by kernel_rfl
theorem space_data : (Rows.laid_strings_asciiSpace : DataW Unit) = Lib.tabData .u8 Lib.asciiSpaceTab := by kernel_rfl
theorem pow_data : (Rows.laid_internal_strconv_uint64pow10 : DataW Unit) = Lib.tabData .u64 Lib.pow10Tab := by kernel_rfl
theorem globTypes : (Tryz.prog.globals[6]?).map (·.type) = some 150 := by kernel_rfl
theorem glob_of_laid {W : World} {L : List (String × DataW Unit)} (h : laidMet Tryz.prog L W)
    (m1 : ("strings.asciiSpace", (Rows.laid_strings_asciiSpace : DataW Unit)) ∈ L) (m2 : ("internal/strconv.uint64pow10", (Rows.laid_internal_strconv_uint64pow10 : DataW Unit)) ∈ L)
    (m3 : ("strconv.ErrSyntax", (Rows.laid_strconv_ErrSyntax : DataW Unit)) ∈ L) (m4 : ("strconv.ErrRange", (Rows.laid_strconv_ErrRange : DataW Unit)) ∈ L) : Glob W.heap.size W := by
  have r1 := Lib.laidMet.reads h m1
  have r2 := Lib.laidMet.reads h m2
  rw [space_data] at r1
  rw [pow_data] at r2
  have t1 := tab_of_reads globNamed1 globTypes Tryz.underlying150 Tryz.underlying5 (by kernel_rfl) (by kernel_rfl) r1
  have t2 := tab_of_reads globNamed2 (show (Tryz.prog.globals[8]?).map (·.type) = some 195 by kernel_rfl) Tryz.underlying195 Tryz.underlying85 (by kernel_rfl) (by kernel_rfl) r2
  obtain ⟨e3, c3, f3⟩ := err_of_reads globNamed3 (show (Tryz.prog.globals[2]?).map (·.type) = some 98 by kernel_rfl) Tryz.underlying98 (Lib.laidMet.reads h m3)
  obtain ⟨e4, c4, f4⟩ := err_of_reads globNamed4 (show (Tryz.prog.globals[3]?).map (·.type) = some 98 by kernel_rfl) Tryz.underlying98 (Lib.laidMet.reads h m4)
  have lt_of : ∀ (n : String) (g : Nat), Tryz.prog.globalNamed n = some g → (W.var? Tryz.prog n).isSome = true → g < W.heap.size := by
    intro n g hn hs
    simp only [World.var?, hn, Option.bind_some] at hs
    rcases Nat.lt_or_ge g W.heap.size with h' | h'
    · exact h'
    · rw [Array.getElem?_eq_none h'] at hs; simp at hs
  refine ⟨t1, t2, ⟨e3, c3, f3⟩, ⟨e4, c4, f4⟩, lt_of _ _ globNamed1 (by rw [t1]; rfl), lt_of _ _ globNamed2 (by rw [t2]; rfl), World.block_lt_of_cell? W _ c3, World.block_lt_of_cell? W _ c4⟩
end Go.Proofs.YtcdmkmbbliaefaaGreatDoor
