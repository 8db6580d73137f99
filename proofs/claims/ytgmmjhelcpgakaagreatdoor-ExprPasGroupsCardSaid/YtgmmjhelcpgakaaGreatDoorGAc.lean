/- Package tree: checker.call, checker.expr, CheckExpr at Pas. -/
import Derived.Test.YtgmmjhelcpgakaaGreatDoorGS
import Derived.Test.YtgmmjhelcpgakaaGreatDoorGU
import Derived.Test.YtgmmjhelcpgakaaGreatDoorGV
import Derived.Test.YtgmmjhelcpgakaaGreatDoorGW
import Derived.Test.YtgmmjhelcpgakaaGreatDoorGZ
import Derived.Test.YtgmmjhelcpgakaaGreatDoorGAa
import Derived.Test.YtgmmjhelcpgakaaGreatDoorGAb
import Derived.Deep.RegionWith
namespace Go.Proofs.YtgmmjhelcpgakaaGreatDoor
open Go.RowKit
set_option linter.unusedVariables false
set_option linter.unusedSimpArgs false

theorem deepS_le (ds : List Nat) : deepS ds ≤ 48 := by
  unfold deepS
  split
  · omega
  · split
    · omega
    · omega
theorem chk_le (e : Ex) : chk e ≤ 48 := by
  rw [chk_eq]; unfold chkOf
  repeat' split
  all_goals first | exact deepS_le _ | exact Nat.zero_le _
theorem deepS_zero (ds : List Nat) (h : 0 ∈ ds) : deepS ds = 0 := by unfold deepS; rw [if_pos h]
theorem chk_up (e : Ex) (h : e.op = 25) : chk e = 0 := by
  rw [chk_eq]; exact chk_out (.inr (by omega))
set_option maxRecDepth 100000 in
set_option maxHeartbeats 4000000 in
theorem ckCall_no (n : Int) (nm f : ByteArray) (m : Nat) (A : Option Addr) (c : Nat) (w : World)
    (HR : Hid (∀ W, Keep (fun _ => False) w W → Calls Tryz.prog 131 #[.agg #[.int .i64 0], .string nm] W (BPostF false W))) :
    Calls Tryz.prog 98 #[.agg #[.int .i64 0], .agg #[.int .i64 7, .int .i64 n, .string nm, .string f, .slice A m c]] w (DPost 0 w) := by
  have HK0 := Lib.hid (show Keep (fun _ => False) w ((w.alloc (.cells #[.int .i64 0] 109)).alloc (.cells #[.int .i64 7, .int .i64 n, .string nm, .string f, .slice A m c] 25)) from ((Keep.refl _ w).alloc _).alloc _)
  go_enter Tryz.func98, Tryz.ntmps98
  go_wp2_with fail
  refine (HR.out _ HK0.out).mono ?_
  rintro e w2 ⟨rfl, hk2⟩
  have h2 := HK0.out.trans hk2
  go_wp2_with fail
  go_ret
  exact ⟨rfl, h2⟩
set_option maxRecDepth 100000 in
set_option maxHeartbeats 4000000 in
theorem ckCall_yes (n : Int) (nm f : ByteArray) (m D : Nat) (hm : m ≤ 2305843009213693951) (A : Option Addr) (c : Nat) (hc : m ≤ c) (w : World)
    (HR : Hid (∀ W, Keep (fun _ => False) w W → Calls Tryz.prog 131 #[.agg #[.int .i64 0], .string nm] W (BPostF true W)))
    (HD : Hid (∀ W, Keep (fun _ => False) w W → Calls Tryz.prog 99 #[.agg #[.int .i64 0], .slice A m c] W (DPost D W)))
    (HE : Hid (m = 0 ∨ ∃ b off k o, A = some ⟨b, off, none⟩ ∧ m = k + 1 ∧ w.cell? ⟨b, off + k * 5, none⟩ = some (.int .i64 o) ∧ o ≠ 25)) :
    Calls Tryz.prog 98 #[.agg #[.int .i64 0], .agg #[.int .i64 7, .int .i64 n, .string nm, .string f, .slice A m c]] w (DPost D w) := by
  have HK0 := Lib.hid (show Keep (fun _ => False) w ((w.alloc (.cells #[.int .i64 0] 109)).alloc (.cells #[.int .i64 7, .int .i64 n, .string nm, .string f, .slice A m c] 25)) from ((Keep.refl _ w).alloc _).alloc _)
  have HB0 := Lib.hid (show Blk ((w.alloc (.cells #[.int .i64 0] 109)).alloc (.cells #[.int .i64 7, .int .i64 n, .string nm, .string f, .slice A m c] 25)) w.heap.size #[.int .i64 0] 109 from (Blk.new w _ _).alloc _)
  have HB1 := Lib.hid (show Blk ((w.alloc (.cells #[.int .i64 0] 109)).alloc (.cells #[.int .i64 7, .int .i64 n, .string nm, .string f, .slice A m c] 25)) (w.heap.size + 1) #[.int .i64 7, .int .i64 n, .string nm, .string f, .slice A m c] 25 from Blk.new' (by simp) _ _)
  go_enter Tryz.func98, Tryz.ntmps98
  go_wp2_with fail
  refine (HR.out _ HK0.out).mono ?_
  rintro e w2 ⟨rfl, hk2⟩
  have HK2 := Lib.hid (HK0.out.trans hk2)
  have p0 := (hk2.blk HB0.out (fun h => h)).at_ 0 (v := .int .i64 0) rfl
  have pl0 := (hk2.blk HB0.out (fun h => h)).lt
  have p1 := (hk2.blk HB1.out (fun h => h)).all5
  have pl1 := (hk2.blk HB1.out (fun h => h)).lt
  clear hk2
  go_wp2_with fail
  go_loopw [5] (fun v wr => v = .int .i64 m ∧ wr = w2) (fun _ _ => 0)
  case atStart => exact ⟨rfl, rfl⟩
  case round =>
    obtain ⟨rfl, hw⟩ := hrel
    have hw2 := hw.symm
    subst hw2
    clear hw
    have hc0 : (m : Int) ≤ (c : Int) := by omega
    have hi0 : (0 : Int) ≤ (m : Int) := by omega
    rcases HE.out with h0 | ⟨b, off, k, o, rfl, hk, hco, ho⟩
    · subst h0
      go_wp2_with fail
      go_region_with (go_at_call 99; refine (HD.out _ (by first | exact HK2.out | exact HK2.out.drew)).mono ?_; rintro en w3 ⟨rfl, hk3⟩; have HK3 := Lib.hid ((by first | exact HK2.out.trans hk3 | exact HK2.out.drew.trans hk3 : Keep (fun _ => False) w w3)); clear hk3)
      all_goals
        go_wp2_with fail
        go_ret
        exact ⟨rfl, HK3.out⟩
    · have hcell := HK2.out.cell hco (fun h => h)
      have ho1 : (o == 25) = false := by rw [beq_eq_false_iff_ne]; exact ho
      have hbl := World.block_lt_of_cell? _ _ hcell
      subst hk
      clear hco ho
      go_wp2_with fail
      go_region_with (go_at_call 99; refine (HD.out _ (by first | exact HK2.out | exact HK2.out.drew)).mono ?_; rintro en w3 ⟨rfl, hk3⟩; have HK3 := Lib.hid ((by first | exact HK2.out.trans hk3 | exact HK2.out.drew.trans hk3 : Keep (fun _ => False) w w3)); clear hk3)
      all_goals
        go_wp2_with fail
        go_ret
        exact ⟨rfl, HK3.out⟩
set_option maxRecDepth 100000 in
set_option maxHeartbeats 4000000 in
theorem ckCall_up (n : Int) (nm f : ByteArray) (m : Nat) (hm : m ≤ 2305843009213693951) (A : Option Addr) (c : Nat) (w : World)
    (HR : Hid (∀ W, Keep (fun _ => False) w W → Calls Tryz.prog 131 #[.agg #[.int .i64 0], .string nm] W (BPostF true W)))
    (y : Ex) (A' : Option Addr) (c' : Nat) (b off k : Nat) (hA : A = some ⟨b, off, none⟩) (hk : m = k + 1) (hy : y.op = 25) (hcell : Hid (∀ j, j < 5 → w.cell? ⟨b, off + k * 5 + j, none⟩ = (exA y A' c')[j]?)) :
    Calls Tryz.prog 98 #[.agg #[.int .i64 0], .agg #[.int .i64 7, .int .i64 n, .string nm, .string f, .slice A m c]] w (DPost 0 w) := by
  subst hA
  subst hk
  have HK0 := Lib.hid (show Keep (fun _ => False) w ((w.alloc (.cells #[.int .i64 0] 109)).alloc (.cells #[.int .i64 7, .int .i64 n, .string nm, .string f, .slice (some ⟨b, off, none⟩) (k + 1) c] 25)) from ((Keep.refl _ w).alloc _).alloc _)
  have HB0 := Lib.hid (show Blk ((w.alloc (.cells #[.int .i64 0] 109)).alloc (.cells #[.int .i64 7, .int .i64 n, .string nm, .string f, .slice (some ⟨b, off, none⟩) (k + 1) c] 25)) w.heap.size #[.int .i64 0] 109 from (Blk.new w _ _).alloc _)
  have HB1 := Lib.hid (show Blk ((w.alloc (.cells #[.int .i64 0] 109)).alloc (.cells #[.int .i64 7, .int .i64 n, .string nm, .string f, .slice (some ⟨b, off, none⟩) (k + 1) c] 25)) (w.heap.size + 1) #[.int .i64 7, .int .i64 n, .string nm, .string f, .slice (some ⟨b, off, none⟩) (k + 1) c] 25 from Blk.new' (by simp) _ _)
  go_enter Tryz.func98, Tryz.ntmps98
  go_wp2_with fail
  refine (HR.out _ HK0.out).mono ?_
  rintro e w2 ⟨rfl, hk2⟩
  have HK2 := Lib.hid (HK0.out.trans hk2)
  have p0 := (hk2.blk HB0.out (fun h => h)).at_ 0 (v := .int .i64 0) rfl
  have pl0 := (hk2.blk HB0.out (fun h => h)).lt
  have p1 := (hk2.blk HB1.out (fun h => h)).all5
  have pl1 := (hk2.blk HB1.out (fun h => h)).lt
  clear hk2
  go_wp2_with fail
  go_loopw [5] (fun v wr => v = .int .i64 ((k + 1 : Nat) : Int) ∧ wr = w2) (fun _ _ => 0)
  case atStart => exact ⟨rfl, rfl⟩
  case round =>
    obtain ⟨rfl, hw⟩ := hrel
    have hw2 := hw.symm
    subst hw2
    clear hw
    have q0 := HK2.out.cell (v := .int .i64 25) ((hcell.out 0 (by decide)).trans (by rw [← hy]; rfl)) (fun h => h)
    have q1 := HK2.out.cell (v := .int .i64 y.num) ((hcell.out 1 (by decide)).trans rfl) (fun h => h)
    have q2 := HK2.out.cell (v := .string y.name) ((hcell.out 2 (by decide)).trans rfl) (fun h => h)
    have q3 := HK2.out.cell (v := .string y.field) ((hcell.out 3 (by decide)).trans rfl) (fun h => h)
    have q4 := HK2.out.cell (v := .slice A' y.list.length c') ((hcell.out 4 (by decide)).trans rfl) (fun h => h)
    simp only [Nat.add_zero] at q0
    have hbl := World.block_lt_of_cell? _ _ q0
    simp only at hbl
    clear hy
    go_wp2_with fail
    go_ret
    exact ⟨rfl, HK2.out.alloc _⟩
/-- What a tree's sizes are to be: that of the machine. -/
def Big : Nat := 9223372036854775807
mutual
def SzE : Ex → Prop
  | .mk o n s f l => s.size ≤ 9223372036854775807 ∧ f.size ≤ 9223372036854775807 ∧ l.length ≤ 2305843009213693951 ∧ (-9223372036854775808 ≤ n ∧ n ≤ 9223372036854775807) ∧ SzEs l
def SzEs : List Ex → Prop
  | [] => True
  | a :: l => SzE a ∧ SzEs l
end
theorem SzEs.mem : ∀ {l : List Ex}, SzEs l → ∀ x ∈ l, SzE x
  | [], _, x, h => by cases h
  | a :: l, hs, x, h => by
    rw [SzEs] at hs
    rcases List.mem_cons.1 h with rfl | h
    · exact hs.1
    · exact hs.2.mem x h
theorem SzE.of {x : Ex} (h : SzE x) : x.name.size ≤ 9223372036854775807 ∧ x.field.size ≤ 9223372036854775807 ∧ x.list.length ≤ 2305843009213693951 ∧ (-9223372036854775808 ≤ x.num ∧ x.num ≤ 9223372036854775807) ∧ ∀ y ∈ x.list, SzE y := by
  cases x; rw [SzE] at h
  exact ⟨h.1, h.2.1, h.2.2.1, h.2.2.2.1, h.2.2.2.2.mem⟩
theorem ck_any : ∀ (k : Nat) (x : Ex), SizeOf.sizeOf x ≤ k → SzE x → CkP x
  | 0, x, h, _ => by cases x; simp at h
  | k + 1, .mk o n nm f l, h, hz => by
    intro A c S w hg hcap hr
    obtain ⟨z1, z2, z3, z4, z5⟩ := hz.of
    have ih : ∀ y ∈ l, CkP y := fun y hy => ck_any k y (by have := List.sizeOf_lt_of_mem hy; simp at h; omega) (z5 y hy)
    have HF := Lib.hid (fun W => few_any A l.length c W)
    have HN := Lib.hid (fun (W : World) (hk : Keep (fun _ => False) w W) => ckName_any nm z1 W (globW hg hk))
    have HNF := Lib.hid (fun (W : World) (hk : Keep (fun _ => False) w W) => ckName_any f z2 W (globW hg hk))
    have HD := Lib.hid (fun (W : World) (hk : Keep (fun _ => False) w W) => deepest_any l z3 ih (fun x _ => chk_le x) A c S W (globW hg hk) (hr.keepF hk))
    have hlen : l.length = (l.map chk).length := by simp
    rw [chk, chks_map]
    show Calls Tryz.prog 54 #[.agg #[.int .i64 0], .agg #[.int .i64 o, .int .i64 n, .string nm, .string f, .slice A l.length c]] w (DPost (chkOf o n nm f (l.map chk)) w)
    have hv : ∀ v : Int, 1 ≤ v ∧ v ≤ 3 → o = v → Calls Tryz.prog 54 #[.agg #[.int .i64 0], .agg #[.int .i64 o, .int .i64 n, .string nm, .string f, .slice A l.length c]] w (DPost (chkOf o n nm f (l.map chk)) w) := by
      intro v hv ho
      subst ho
      by_cases hn : n = 0
      · subst hn
        rcases (by omega : o = 1 ∨ o = 2 ∨ o = 3) with h | h | h <;> subst h
        · exact ck1z nm f _ _ hlen A c w HF HD
        · exact ck2z nm f _ _ hlen A c w HF HD
        · exact ck3z nm f _ _ hlen A c w HF HD
      · rcases (by omega : o = 1 ∨ o = 2 ∨ o = 3) with h | h | h <;> subst h
        · exact ck1n n hn nm f _ _ hlen A c w HF HD
        · exact ck2n n hn nm f _ _ hlen A c w HF HD
        · exact ck3n n hn nm f _ _ hlen A c w HF HD
    by_cases h1 : o < 1
    · exact ckL o h1 n nm f _ _ hlen A c w HF
    by_cases h3 : o ≤ 3
    · exact hv o (by omega) rfl
    by_cases h4 : o = 4
    · subst h4; exact ck4 n nm f _ _ hlen A c w HF HN HD
    by_cases h5 : o = 5
    · subst h5; exact ck5 n nm f _ _ hlen A c w HF HN HD
    by_cases h6 : o = 6
    · subst h6; exact ck6 n nm f _ _ hlen A c w HF HN HNF HD
    by_cases h8 : o = 8
    · subst h8; exact ck8 n nm f _ _ hlen A c w HF HD
    by_cases h9 : o = 9
    · subst h9; exact ck9 n nm f _ _ hlen A c w HF HD
    by_cases h24 : 24 < o
    · exact ckH o h24 n nm f _ _ hlen A c w HF
    by_cases h7 : o = 7
    · subst h7
      refine ck7 n nm f _ _ hlen A c w HF (Lib.hid fun W n' hn' hk => ?_)
      have HR := Lib.hid (fun (W2 : World) (hk2 : Keep (fun _ => False) W W2) => ckRoutine_any nm z1 W2 (globW hg (hk.trans hk2)))
      have HDW := Lib.hid (fun (W2 : World) (hk2 : Keep (fun _ => False) W W2) => HD.out W2 (hk.trans hk2))
      cases hok : nameOK nm with
      | false =>
        rw [hok] at HR
        exact ckCall_no n' nm f l.length A c W HR
      | true =>
        rw [hok] at HR
        show Calls _ _ _ _ (DPost (deepS (l.map chk)) W)
        rcases List.eq_nil_or_concat l with hl | ⟨l', y, hl⟩
        · exact ckCall_yes n' nm f l.length _ z3 A c hcap W HR HDW (Lib.hid (.inl (by rw [hl]; rfl)))
        · have hy : l[l'.length]? = some y := by rw [hl]; simp
          have hne : l ≠ [] := by rw [hl]; simp
          have hm : l.length = l'.length + 1 := by rw [hl]; simp
          obtain ⟨b, off, hA, _, hcs⟩ := (hr.keepF hk) hne
          obtain ⟨A', c', _, _, hcell⟩ := hcs.at_ _ y hy
          by_cases hup : y.op = 25
          · rw [deepS_zero _ (by rw [← chk_up y hup]; exact List.mem_map.2 ⟨y, List.mem_of_getElem? hy, rfl⟩)]
            exact ckCall_up n' nm f l.length z3 A c W HR y A' c' b off l'.length hA hm hup (Lib.hid hcell)
          · exact ckCall_yes n' nm f l.length _ z3 A c hcap W HR HDW (Lib.hid (.inr ⟨b, off, l'.length, y.op, hA, hm, (hcell 0 (by decide)).trans rfl, hup⟩))
    · exact ckR o (by omega) (by omega) n nm f _ _ hlen A c w HF HD
set_option maxRecDepth 100000 in
set_option maxHeartbeats 4000000 in
theorem checkExpr_any (x : Ex) (hz : SzE x) (A : Option Addr) (c : Nat) (S : Nat → Prop) (w : World) (hg : Glob w.heap.size w) (hcap : x.list.length ≤ c) (hr : KdRow S w x.list A) :
    Calls Tryz.prog 27 #[.int .i64 0, .agg (exA x A c)] w (DPost (if chk x = 0 then 1 else 0) w) := by
  have HC := Lib.hid (fun (W : World) (hk : Keep (fun _ => False) w W) => ck_any _ x (Nat.le_refl _) hz A c S W (globW hg hk) hcap (hr.keepF hk))
  obtain ⟨d, hd⟩ : ∃ d, d = chk x := ⟨_, rfl⟩
  rw [← hd] at HC ⊢
  have hd48 : d ≤ 48 := by rw [hd]; exact chk_le x
  clear hg hr hcap hz hd
  unfold exA at *
  by_cases h0 : d = 0
  · subst h0
    go_enter Tryz.func27, Tryz.ntmps27
    go_wp2_with fail
    refine (HC.out _ ((Keep.refl _ w).alloc _)).mono ?_
    rintro e w2 ⟨rfl, hk2⟩
    go_wp2_with fail
    go_ret
    exact ⟨rfl, ((Keep.refl _ w).alloc _).trans hk2⟩
  · have h1 : ((d : Int) == 0) = false := by rw [beq_eq_false_iff_ne]; omega
    rw [if_neg h0]
    clear h0
    go_enter Tryz.func27, Tryz.ntmps27
    go_wp2_with fail
    refine (HC.out _ ((Keep.refl _ w).alloc _)).mono ?_
    rintro e w2 ⟨rfl, hk2⟩
    go_wp2_with fail
    go_ret
    exact ⟨rfl, ((Keep.refl _ w).alloc _).trans hk2⟩
end Go.Proofs.YtgmmjhelcpgakaaGreatDoor
/- Package exprpas: printer.expr, Print. -/
namespace Go.Proofs.YtgmmjhelcpgakaaGreatDoor
open Go.RowKit
set_option linter.unusedVariables false
set_option linter.unusedSimpArgs false

/-- What a right expression is. -/
theorem chk_inv (x : Ex) (h : chk x ≠ 0) : oddP x.op x.num x.name x.field x.list.length = false ∧ deepS (x.list.map chk) ≠ 0 ∧ ((x.op = 7 ∧ nameOK x.name = true) ∨ (1 ≤ x.op ∧ x.op ≤ 24 ∧ x.op ≠ 7 ∧ okP x.op x.num x.name x.field = true ∧ x.list.length = wantP x.op)) := by
  rw [chk_eq] at h
  unfold chkOf at h
  by_cases h1 : oddP x.op x.num x.name x.field (x.list.map chk).length = true
  · rw [if_pos h1] at h; exact absurd rfl h
  rw [if_neg h1] at h
  have h1' : oddP x.op x.num x.name x.field x.list.length = false := by
    rw [List.length_map] at h1; simpa using h1
  refine ⟨h1', ?_⟩
  by_cases h7 : x.op = 7
  · rw [if_pos h7] at h
    by_cases hn : nameOK x.name = true
    · rw [if_pos hn] at h; exact ⟨h, .inl ⟨h7, hn⟩⟩
    · rw [if_neg hn] at h; exact absurd rfl h
  · rw [if_neg h7] at h
    by_cases h2 : x.op < 1 ∨ 24 < x.op
    · rw [if_pos h2] at h; exact absurd rfl h
    · rw [if_neg h2] at h
      by_cases h3 : okP x.op x.num x.name x.field = true ∧ (x.list.map chk).length = wantP x.op
      · rw [if_pos h3] at h
        refine ⟨h, .inr ⟨by omega, by omega, h7, h3.1, by rw [← h3.2, List.length_map]⟩⟩
      · rw [if_neg h3] at h; exact absurd rfl h
theorem chk_kids (x : Ex) (h : chk x ≠ 0) : ∀ y ∈ x.list, chk y ≠ 0 := by
  intro y hy h0
  apply (chk_inv x h).2.1
  exact deepS_zero _ (List.mem_map.2 ⟨y, hy, h0⟩)
theorem Child.of {B : Nat} {w : World} {l : List Ex} {A : Option Addr} (hr : KdRow (· < B) w l A) (k : Nat) (y : Ex) (hy : l[k]? = some y) :
    ∃ ba off A' c', A = some ⟨ba, off, none⟩ ∧ Child B w ba (off + k * 5) y A' c' ∧ KdRow (· < B) w y.list A' := by
  obtain ⟨ba, off, hA, hb, hcs⟩ := hr (by intro h; rw [h] at hy; simp at hy)
  obtain ⟨A', c', _, hr', hc⟩ := hcs.at_ k y hy
  exact ⟨ba, off, A', c', hA, ⟨hb, hc⟩, hr'⟩
theorem two_of {l : List Ex} (h : l.length = 2) : ∃ a b, l = [a, b] := by
  match l, h with
  | [a, b], _ => exact ⟨a, b, rfl⟩
theorem one_of {l : List Ex} (h : l.length = 1) : ∃ a, l = [a] := by
  match l, h with
  | [a], _ => exact ⟨a, rfl⟩
theorem pr_any : ∀ (k : Nat) (x : Ex), SizeOf.sizeOf x ≤ k → chk x ≠ 0 → SzE x → ∀ (B b m : Nat) (A : Option Addr) (c : Nat) (w : World), B ≤ w.heap.size → Glob B w → KdRow (· < B) w x.list A → ChildE B b m w x A c
  | 0, x, h, _, _ => by cases x; simp at h
  | k + 1, .mk o n nm f l, h, hck, hz => by
    intro B b m A c w hBW hg hr W st hq hs
    obtain ⟨z1, z2, z3, z4, z5⟩ := hz.of
    obtain ⟨i1, i2, i3⟩ := chk_inv _ hck
    have hkids := chk_kids _ hck
    simp only [Ex.op, Ex.num, Ex.name, Ex.field, Ex.list] at *
    have hgW : Glob B W := hg.keep hq.1 hBW (fun _ h => h)
    have hrW : KdRow (· < B) W l A := hr.keep hq.1 (fun k h1 h2 => by omega)
    have hBWs : B ≤ W.heap.size := Nat.le_trans hBW hq.1.size
    have hch : ∀ (j : Nat) (y : Ex), l[j]? = some y → ∃ ba off A' c', A = some ⟨ba, off, none⟩ ∧ Child B W ba (off + j * 5) y A' c' ∧ ChildE B b m W y A' c' := by
      intro j y hy
      obtain ⟨ba, off, A', c', hA, hc, hr'⟩ := Child.of hrW j y hy
      have hmem := List.mem_of_getElem? hy
      exact ⟨ba, off, A', c', hA, hc, pr_any k y (by have := List.sizeOf_lt_of_mem hmem; simp at h; omega) (hkids y hmem) (z5 y hmem) B b m A' c' W hBWs hgW hr'⟩
    have hpow := Lib.hid (fun (V : World) (hk : Keep (fun _ => False) W V) => (hgW.keep hk hBWs (fun _ h => h.elim)).pow)
    rw [pcs_eq]
    simp only [Ex.op, Ex.num, Ex.name, Ex.field, Ex.list]
    rcases i3 with ⟨h7, _⟩ | ⟨o1, o24, o7, hok, hlen⟩
    · subst h7
      exact pe7 B b m l.length n nm f A c st W hs l rfl z3 (Lib.hid hch)
    · by_cases h1 : o = 1
      · subst h1
        obtain rfl : l = [] := List.eq_nil_of_length_eq_zero hlen
        exact pe1 B b m n nm f A c st W hs z4.1 z4.2 hpow
      by_cases h2 : o = 2
      · subst h2
        obtain rfl : l = [] := List.eq_nil_of_length_eq_zero hlen
        rcases (of_decide_eq_true hok : n = 0 ∨ n = 1) with rfl | rfl
        · exact pe2f B b m nm f A c st W hs
        · exact pe2t B b m nm f A c st W hs
      by_cases h3 : o = 3
      · subst h3
        obtain rfl : l = [] := List.eq_nil_of_length_eq_zero hlen
        obtain ⟨q1, q2⟩ : 0 ≤ n ∧ n ≤ 255 := of_decide_eq_true hok
        exact pe3 B b m n nm f A c st W hs q1 q2 hpow
      by_cases h4 : o = 4
      · subst h4
        obtain rfl : l = [] := List.eq_nil_of_length_eq_zero hlen
        exact pe4 B b m n nm f A c st W hs
      by_cases h6 : o = 6
      · subst h6
        obtain rfl : l = [] := List.eq_nil_of_length_eq_zero hlen
        exact pe6 B b m n nm f A c st W hs
      by_cases h5 : o = 5
      · subst h5
        obtain ⟨a, rfl⟩ := one_of hlen
        obtain ⟨ba, off, A', c', hA, hc, he⟩ := hch 0 a rfl
        exact pe5 B b m n nm f A c st W hs a ba off A' c' (Lib.hid hc) (Lib.hid he) hA
      by_cases h8 : o = 8
      · subst h8
        obtain ⟨a, rfl⟩ := one_of hlen
        obtain ⟨ba, off, A', c', hA, hc, he⟩ := hch 0 a rfl
        exact pe8 B b m n nm f A c st W hs a ba off A' c' (Lib.hid hc) (Lib.hid he) hA
      by_cases h9 : o = 9
      · subst h9
        obtain ⟨a, rfl⟩ := one_of hlen
        obtain ⟨ba, off, A', c', hA, hc, he⟩ := hch 0 a rfl
        exact pe9 B b m n nm f A c st W hs a ba off A' c' (Lib.hid hc) (Lib.hid he) hA
      have hw : wantP o = 2 := by unfold wantP; rw [if_neg (by omega), if_pos (by omega)]
      rw [hw] at hlen
      obtain ⟨a, a2, rfl⟩ := two_of hlen
      obtain ⟨ba, off, A', c', hA, hc, he⟩ := hch 0 a rfl
      obtain ⟨ba2, off2, A2, c2, hA2, hc2, he2⟩ := hch 1 a2 rfl
      rw [hA] at hA2
      injection hA2 with hA2
      injection hA2 with e1 e2
      subst e1; subst e2
      have hp : pcsOf o n nm f (([a, a2] : List Ex).map Ex.op) (([a, a2] : List Ex).map pcs) = atP (leftP o) a.op (pcs a) ++ [[bs (sgnP o)]] ++ atP (lvlP o + 1) a2.op (pcs a2) := by
        unfold pcsOf
        rw [if_neg h1, if_neg h2, if_neg h3, if_neg h4, if_neg h6, if_neg h5, if_neg o7, if_neg h8, if_neg h9]
        rfl
      rw [hp]
      have hlv : lvlP o = 1 ∨ lvlP o = 2 ∨ lvlP o = 3 := by
        unfold lvlP
        repeat' split
        all_goals first | omega | exact .inl rfl | exact .inr (.inl rfl) | exact .inr (.inr rfl)
      rcases hlv with hl | hl | hl
      · exact peR1 B b m o n nm f A c st W hs a ba off A' c' (Lib.hid hc) (Lib.hid he) a2 A2 c2 (Lib.hid hc2) (Lib.hid he2) hA hl (by omega)
      · exact peR2 B b m o n nm f A c st W hs a ba off A' c' (Lib.hid hc) (Lib.hid he) a2 A2 c2 (Lib.hid hc2) (Lib.hid he2) hA hl (by omega)
      · exact peR3 B b m o n nm f A c st W hs a ba off A' c' (Lib.hid hc) (Lib.hid he) a2 A2 c2 (Lib.hid hc2) (Lib.hid he2) hA hl (by omega)
def PrintPost (r : Bs × Nat) (w : World) (e : Ending) (w' : World) : Prop := e = .returned (.tuple #[.string ⟨r.1.toArray⟩, .int .i64 r.2]) ∧ Keep (fun _ => False) w w'
set_option maxRecDepth 100000 in
set_option maxHeartbeats 4000000 in
theorem print_any (x : Ex) (hz : SzE x) (A : Option Addr) (c : Nat) (w : World) (hg : Glob w.heap.size w) (hcap : x.list.length ≤ c) (hr : KdRow (· < w.heap.size) w x.list A) :
    Calls Tryz.prog 13 #[.agg (exA x A c)] w (PrintPost (printP 1073741824 x) w) := by
  have HK0 := Lib.hid (show Keep (fun _ => False) w (w.alloc (.cells (exA x A c) 25)) from (Keep.refl _ w).alloc _)
  have HB0 := Lib.hid (show Blk (w.alloc (.cells (exA x A c) 25)) w.heap.size (exA x A c) 25 from Blk.new w _ _)
  have HC := Lib.hid (fun (W : World) (hk : Keep (fun _ => False) w W) => checkExpr_any x hz A c _ W (globW hg hk) hcap (hr.keepF hk))
  have HG := Lib.hid hg; have HR := Lib.hid hr; have HZ := Lib.hid hz
  obtain ⟨R, hR⟩ : ∃ R, R = printP 1073741824 x := ⟨_, rfl⟩
  rw [← hR]
  have HRR := Lib.hid hR
  clear hg hr hz hcap hR
  by_cases h0 : chk x = 0
  · have hr0 : R = ([], 1) := by rw [HRR.out]; unfold printP; rw [if_pos h0]
    rw [h0] at HC
    subst hr0
    clear h0
    unfold exA at *
    go_enter Tryz.func13, Tryz.ntmps13
    go_wp2_with fail
    refine (HC.out _ HK0.out).mono ?_
    rintro e w1 ⟨rfl, hk1⟩
    have HK1 := Lib.hid (HK0.out.trans hk1)
    clear hk1
    go_wp2_with fail
    go_ret2
    exact ⟨rfl, HK1.out⟩
  · have hr0 : R = ((putsS 1073741824 ([], false) (pcs x)).1, 0) := by rw [HRR.out]; unfold printP; rw [if_neg h0]
    rw [if_neg h0] at HC
    subst hr0
    have HCK := Lib.hid h0
    clear h0
    unfold exA at *
    go_enter Tryz.func13, Tryz.ntmps13
    go_wp2_with fail
    refine (HC.out _ HK0.out).mono ?_
    rintro e w1 ⟨rfl, hk1⟩
    have HK1 := Lib.hid (HK0.out.trans hk1)
    have HBX := Lib.hid (hk1.blk HB0.out (fun h => h))
    clear hk1
    have a5 := HBX.out.all5
    have al := HBX.out.lt
    go_wp2_with fail
    refine (snkNew 1073741824 (by decide) _).mono ?_
    rintro e w2 ⟨rfl, hs2, hk2⟩
    have HS2 := Lib.hid hs2
    have HK2 := Lib.hid (HK1.out.trans hk2)
    have HBY := Lib.hid (hk2.blk HBX.out (fun h => h))
    clear hs2 a5 al
    have a5 := HBY.out.all5
    have al := HBY.out.lt
    have hlt := HS2.out.lt
    have hw1 : w1.heap.size ≤ w2.heap.size := hk2.size
    have HW1 := Lib.hid hw1
    have HKK := Lib.hid (hk2.trans ((Keep.refl _ w2).alloc (.cells #[.pointer (some ⟨w1.heap.size, 0, none⟩)] 72)))
    clear hk2 hw1
    go_wp2_with fail
    have hk3 : Keep (fun _ => False) w2 (w2.alloc (.cells #[.pointer (some ⟨w1.heap.size, 0, none⟩)] 72)) := (Keep.refl _ _).alloc _
    have hg1 : Glob w1.heap.size (w2.alloc (.cells #[.pointer (some ⟨w1.heap.size, 0, none⟩)] 72)) := by
      have h1 := globW HG.out HK1.out
      exact globF h1 HKK.out (Nat.le_refl _)
    refine (pr_any _ x (Nat.le_refl _) HCK.out HZ.out w1.heap.size w1.heap.size 1073741824 A c _ (by simp; have := HW1.out; omega) hg1 ((HR.out.keepF (HK2.out.trans hk3)).mono (fun k _ h => Nat.lt_of_lt_of_le h HK1.out.size)) _ ([], false) (SK.refl _ _ _) (HS2.out.keepF hk3)).mono ?_
    rintro e w3 ⟨rfl, hs3, hk4⟩
    have HS3 := Lib.hid hs3
    have hbp := hk4.2 w2.heap.size _ _ (by have := HS2.out.lt; omega) (by decide) (Blk.new w2 #[.pointer (some ⟨w1.heap.size, 0, none⟩)] 72)
    have q0 := hbp.at_ 0 (v := .pointer (some ⟨w1.heap.size, 0, none⟩)) rfl
    have ql := hbp.lt
    have HK4 := Lib.hid (show Keep (w1.heap.size ≤ ·) w w3 from ((HK2.out.trans hk3).mono (fun _ _ h => h.elim)).trans hk4.1)
    clear hs3 hbp hk4 hk3 hg1 a5 al hlt
    go_wp2_with fail
    refine (snkString _ _ _ _ _ _ HS3.out).mono ?_
    rintro e w4 ⟨rfl, hk5⟩
    have HK5 := Lib.hid (HK4.out.trans hk5)
    clear hk5 q0 ql
    go_wp2_with fail
    go_ret2
    exact ⟨rfl, HK5.out.mono (fun k hk h => by have := HK1.out.size; omega)⟩
end Go.Proofs.YtgmmjhelcpgakaaGreatDoor
