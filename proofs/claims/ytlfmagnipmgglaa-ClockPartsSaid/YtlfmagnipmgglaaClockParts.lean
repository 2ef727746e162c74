/-
  ClockParts is true for every two lists of times: what a clock tells hangs on the greatest time that it saw alone. No condition.
  The row's frame below was written by the kit's proof-skeleton.mjs; the walk is this session's own.
-/
import Derived.Test.YtlfmagnipmgglaaWalk
import Derived.WalkKit
import Derived.ProofKit
import Derived.OpenShut
import Derived.ShutString
import Derived.ChangeOld
import Derived.Below
namespace Go.Proofs.Ytlfmagnipmgglaa.clockParts
open Go.ChangeShapes Go.WideShapes Go.ChangeAt Go.RowKit
open Go.ChangeMaps (open_string shut_string)
set_option linter.unusedVariables false

theorem own : ownKnob Try.prog.godebug = none := by kernel_rfl
theorem laidOut : laidOutB Try.prog = true := by kernel_rfl

/-- WHAT THE WALK IS TOLD OF A SLICE OF INTEGERS THAT CAME IN: it is nil; or it leads to a row of 'cap' cells, the numbers 'zs' (the first 'len' are its elements, the rest its spare room), each fitting its kind. -/
def IsRow (k : IntKind) (w : World) (a : Option Addr) (len cap : Nat) (zs : List Int) : Prop :=
  (a = none ∧ len = 0 ∧ cap = 0 ∧ zs = []) ∨
  ∃ x, a = some x ∧ len ≤ cap ∧ cap ≤ maxLen ∧ zs.length = cap ∧ (∀ i, i < zs.length → w.cell? (x.add i) = some (.int k (zs.getD i 0))) ∧ ∀ n ∈ zs, (Lit.int k n).wf = true

/-- What the walk is told of a slice: each of its cells. -/
def Cells (w : World) (a : Option Addr) (len cap : Nat) (zs : List Int) : Prop :=
  len ≤ cap ∧ cap ≤ maxLen ∧ ∀ i, i < len → ∃ b off, a = some ⟨b, off, none⟩ ∧ b < w.heap.size ∧ w.cell? ⟨b, off + i, none⟩ = some (.int .i64 (zs.getD i 0))

theorem cells_of {w : World} {a : Option Addr} {len cap : Nat} {zs : List Int} (h : IsRow .i64 w a len cap zs) : Cells w a len cap zs := by
  rcases h with ⟨rfl, rfl, rfl, rfl⟩ | ⟨x, rfl, hl, hm, hz, hcell, _⟩
  · exact ⟨Nat.le_refl _, by simp [maxLen], fun i hi => by omega⟩
  · refine ⟨hl, hm, fun i hi => ?_⟩
    obtain ⟨b, off, rfl, hb, hc⟩ := row_cells hcell (by omega)
    exact ⟨b, off, rfl, hb, hc i (by omega)⟩

set_option maxRecDepth 100000 in
set_option maxHeartbeats 2000000 in
theorem walk_cells (a0 a1 : Option Addr) (len0 cap0 len1 cap1 : Nat) (zs ys : List Int) (w : World) (hx : Cells w a0 len0 cap0 zs) (hy : Cells w a1 len1 cap1 ys) :
    Calls Try.prog 7 #[.slice a0 len0 cap0, .slice a1 len1 cap1] w fun e w' => e = .returned (.bool true) ∧ Below w.heap.size w w' := by
  obtain ⟨h0, hm0, hxc⟩ := hx
  obtain ⟨h1, hm1, hyc⟩ := hy
  unfold maxLen at hm0 hm1
  go_enter Try.func7, Try.ntmps7
  go_upto_region 1 with fail
  go_cut [0, 1] (fun v0 v1 w' => ∃ n m : Nat, n ≤ 100 ∧ n ≤ len0 ∧ m ≤ 100 ∧ m ≤ len1 ∧ v0 = .slice a0 n cap0 ∧ v1 = .slice a1 m cap1 ∧ Below w.heap.size w w')
  case first =>
    go_quiet (fail)
    all_goals go_wp2
    all_goals (go_meet; first | exact ⟨100, 100, by omega, by omega, by omega, by omega, rfl, rfl, below_drewN _ _ _⟩ | exact ⟨100, len1, by omega, by omega, by omega, by omega, rfl, rfl, below_drewN _ _ _⟩ | exact ⟨len0, 100, by omega, by omega, by omega, by omega, rfl, rfl, below_drewN _ _ _⟩ | exact ⟨len0, len1, by omega, by omega, by omega, by omega, rfl, rfl, below_drewN _ _ _⟩)
  case rest =>
  obtain ⟨n, m, hn, hnl, hm, hml, rfl, rfl, hbw⟩ := hcut
  by_cases hn0 : n = 0
  · subst hn0
    go_wp2_with (go_at_call 10; refine (alive_any _).mono ?_; rintro e w' ⟨rfl, rfl⟩)
    go_ret
    exact ⟨rfl, hbw.alloc hbw.size _⟩
  · have hne : ((n : Int) == 0) = false := by simp; omega
    obtain ⟨HB, HA, HC⟩ := start2 wc
    have HB := hbw.trans (HB.mono hbw.size)
    have hsz := hbw.size
    clear hbw
    go_wp2_with (first | (go_at_call 9; refine (new_any _).mono ?_; rintro e w' ⟨rfl, rfl⟩) | (go_at_call 10; refine (alive_any _).mono ?_; rintro e w' ⟨rfl, rfl⟩))
    go_loopg [45] n (fun g v45 wr => ∃ (k : Nat) (s : Int) (kb : Bool), k + g = n ∧ v45 = .int .i64 k ∧ (0 < k → kb = true) ∧ IsClk wr wc.heap.size s kb ∧ IsClk wr (wc.heap.size + 1) 0 false ∧ Below w.heap.size w wr)
    case atStart => exact ⟨0, 0, false, by omega, rfl, fun h => by omega, HA, HC, HB⟩
    case round =>
      clear HA HB HC
      obtain ⟨k, s, kb, hkg, rfl, hkb, ha, hc, hbel⟩ := hrel
      by_cases hlt : k < n
      · obtain ⟨b, off, ha0, hb, hcw0⟩ := hxc k (by omega)
        subst ha0
        have hcw : wr.cell? ⟨b, off + k, none⟩ = some (.int .i64 (zs.getD k 0)) := (hbel.cell (p := ⟨b, off + k, none⟩) hb).trans hcw0
        obtain ⟨t, ht⟩ : ∃ t, zs.getD k 0 = t := ⟨_, rfl⟩
        rw [ht] at hcw
        clear ht hxc hyc hcw0 hkb
        go_wp2_with fail
        refine (see_any _ s kb t _ ha).mono ?_
        rintro e w2 ⟨rfl, ha2, ho2⟩
        have hc2 := hc.other ho2 (by omega)
        have hb2 := ho2.below hbel hsz hbel.size
        clear hbel hc ha hcw ho2
        go_wp2_with fail
        go_roundg (n - (k + 1))
        case measure => omega
        case rel => exact ⟨k + 1, _, true, by omega, by go_num, fun _ => rfl, ha2, hc2, hb2⟩
      · obtain rfl := hkb (by omega)
        clear hxc hkb
        go_wp2_with fail
        refine (last_clk _ s true _ ha).mono ?_
        rintro e w2 ⟨rfl, ha2, ho2⟩
        have hc2 := hc.other ho2 (by omega)
        have hb2 := ho2.below hbel hsz hbel.size
        clear hbel hc ha ho2
        go_wp2_with fail
        refine (see_at _ 0 false s s _ hc2 (by simp [seen, Hid])).mono ?_
        rintro e w3 ⟨rfl, hc3, ho3⟩
        have ha3 := ha2.other ho3 (by omega)
        have hb3 := ho3.below hb2 (by omega) hb2.size
        clear hb2 hc2 ha2 ho3
        go_wp2_with fail
        go_loopg [63] m (fun g v63 wr => ∃ (k : Nat) (s : Int), k + g = m ∧ v63 = .int .i64 k ∧ IsClk wr wc.heap.size s true ∧ IsClk wr (wc.heap.size + 1) s true ∧ Below w.heap.size w wr)
        case atStart => exact ⟨0, s, by omega, rfl, ha3, hc3, hb3⟩
        case round =>
          clear ha3 hb3 hc3 hkg hlt
          obtain ⟨k, s, hkg, rfl, ha, hc, hbel⟩ := hrel
          by_cases hlt : k < m
          · obtain ⟨b, off, ha1, hb, hcw0⟩ := hyc k (by omega)
            subst ha1
            have hcw : wr.cell? ⟨b, off + k, none⟩ = some (.int .i64 (ys.getD k 0)) := (hbel.cell (p := ⟨b, off + k, none⟩) hb).trans hcw0
            obtain ⟨t, ht⟩ : ∃ t, ys.getD k 0 = t := ⟨_, rfl⟩
            rw [ht] at hcw
            clear ht hyc hcw0
            go_wp2_with fail
            refine (see_any _ s true t _ ha).mono ?_
            rintro e w2 ⟨rfl, ha2, ho2⟩
            have hc2 := hc.other ho2 (by omega)
            have hb2 := ho2.below hbel hsz hbel.size
            clear hbel hc ha hcw ho2
            go_wp2_with fail
            refine (see_any _ s true t _ hc2).mono ?_
            rintro e w3 ⟨rfl, hc3, ho3⟩
            have ha3 := ha2.other ho3 (by omega)
            have hb3 := ho3.below hb2 (by omega) hb2.size
            clear hb2 hc2 ha2 ho3
            go_wp2_with fail
            go_roundg (m - (k + 1))
            case measure => omega
            case rel => exact ⟨k + 1, _, by omega, by go_num, ha3, hc3, hb3⟩
          · clear hyc
            go_wp2_with fail
            refine (last_clk _ s true _ ha).mono ?_
            rintro e w2 ⟨rfl, ha2, ho2⟩
            have hc2 := hc.other ho2 (by omega)
            have hb2 := ho2.below hbel hsz hbel.size
            clear hbel hc ha ho2
            go_wp2_with fail
            refine (last_clk _ s true _ hc2).mono ?_
            rintro e w3 ⟨rfl, hc3, ho3⟩
            have hb3 := ho3.below hb2 (by omega) hb2.size
            clear hb2 hc2 ha2 ho3
            go_wp2_with fail
            go_ret
            exact ⟨rfl, hb3⟩

theorem walk (a0 : Option Addr) (len0 cap0 : Nat) (z0 : List Int) (a1 : Option Addr) (len1 cap1 : Nat) (z1 : List Int) (w : World) (w0 : IsRow .i64 w a0 len0 cap0 z0) (w1 : IsRow .i64 w a1 len1 cap1 z1) :
    Calls Try.prog 7 #[.slice a0 len0 cap0, .slice a1 len1 cap1] w fun e w' => e = .returned (.bool true) ∧ Below w.heap.size w w' :=
  walk_cells a0 a1 len0 cap0 len1 cap1 z0 z1 w (cells_of w0) (cells_of w1)

/-! ### THE ROW's STEP: WRITTEN OUT: LEAVE IT -/
set_option maxRecDepth 100000 in
theorem lifted (os : Os) (started : os.Started) (H : Type) (enc : TypeId × Value → H) :
    ReturnsInHanded {} Try.checked os 7 .any (Rows.clockPartsSpec.pre6 enc Try.prog Try.f7 Rows.clockPartsRow.domain false) (Rows.clockPartsSpec.post enc Try.prog Try.f7 false true false false) := by
  refine returnsInHanded_of_change (C := Try.checked) own started (by kernel_rfl) Try.func7
    (ChangeSpec.witness6 (enc := enc) (C := Try.checked) false ⟨#[], #[.slice none 0 0, .slice none 0 0], []⟩ 8 (by kernel_rfl) (by kernel_rfl) (by kernel_rfl) (by kernel_rfl)) ?_
  intro W base args ds gs before hval0 hW hcnd _
  have hval : ∀ (j : Nat) t v, Try.f7.params[j]? = some t → args[j]? = some v → Value.okWide Try.prog W .any base t v := hval0
  have hW' := hW
  obtain ⟨p, q, hA0, hV, rfl, hfz, hnd⟩ := hW
  have hA : DataW.TrodAll enc Try.prog W 0 (fun _ => true) true Try.f7.params.toList args.toList ds p := hA0
  rw [Try.params7] at hA hval
  obtain ⟨v0, vs0, d0, ds0, p0, q0, hargs, rfl, rfl, h0, r0⟩ := trodAll_cons hA
  obtain ⟨v1, vs1, d1, ds1, p1, q1, rfl, rfl, rfl, h1, r1⟩ := trodAll_cons r0
  obtain ⟨rfl, rfl, rfl⟩ := trodAll_nil r1
  obtain rfl : args = #[v0, v1] := by cases args; simp_all
  obtain ⟨rfl, rfl⟩ := trodVars_none hV
  obtain ⟨a0, len0, cap0, rfl⟩ := okWide_slice Try.underlying22 (hval 0 22 v0 rfl rfl)
  have k0 := h0
  have lt0 : ∀ x ∈ p0, x.block < W.heap.size := by obtain ⟨m, hm⟩ := k0; exact DataW.trod_lt m _ _ _ hm
  obtain ⟨z0, w0⟩ : ∃ zs, IsRow .i64 W a0 len0 cap0 zs := by
    obtain ⟨fuel, hf⟩ := h0
    rcases open_ints Try.underlying22 Try.underlying2 (by kernel_rfl) hf with ⟨hcs, _⟩ | ⟨x, l, c, zs, hcs, _, hl, hm, hz, _, hcell, hwz⟩
    · simp [Value.cells] at hcs
      obtain ⟨rfl, rfl, rfl⟩ := hcs
      exact ⟨[], .inl ⟨rfl, rfl, rfl, rfl⟩⟩
    · simp [Value.cells] at hcs
      obtain ⟨rfl, rfl, rfl⟩ := hcs
      exact ⟨zs, .inr ⟨_, rfl, hl, hm, by simpa using hz, hcell, hwz⟩⟩
  obtain ⟨a1, len1, cap1, rfl⟩ := okWide_slice Try.underlying22 (hval 1 22 v1 rfl rfl)
  have k1 := h1
  have lt1 : ∀ x ∈ p1, x.block < W.heap.size := by obtain ⟨m, hm⟩ := k1; exact DataW.trod_lt m _ _ _ hm
  obtain ⟨z1, w1⟩ : ∃ zs, IsRow .i64 W a1 len1 cap1 zs := by
    obtain ⟨fuel, hf⟩ := h1
    rcases open_ints Try.underlying22 Try.underlying2 (by kernel_rfl) hf with ⟨hcs, _⟩ | ⟨x, l, c, zs, hcs, _, hl, hm, hz, _, hcell, hwz⟩
    · simp [Value.cells] at hcs
      obtain ⟨rfl, rfl, rfl⟩ := hcs
      exact ⟨[], .inl ⟨rfl, rfl, rfl, rfl⟩⟩
    · simp [Value.cells] at hcs
      obtain ⟨rfl, rfl, rfl⟩ := hcs
      exact ⟨zs, .inr ⟨_, rfl, hl, hm, by simpa using hz, hcell, hwz⟩⟩
  clear hA0 hval0
  refine (walk a0 len0 cap0 z0 a1 len1 cap1 z1 W w0 w1).mono fun e W' ⟨he, bel⟩ => ?_
  subst he
  exact ⟨_, rfl, _, _, _, [], _, [], hW', trodAll_mk1 (shut_bool Try.underlying4 _), (trodAll_cons_mk (Below.trod laidOut (by kernel_rfl) (of_decide_eq_true (by kernel_rfl)) k0 bel lt0) (trodAll_cons_mk (Below.trod laidOut (by kernel_rfl) (of_decide_eq_true (by kernel_rfl)) k1 bel lt1) trodAll_mk0)), rfl, bel.frame _, fun h => by cases h⟩

theorem over : Rows.clockPartsRow.holds Try.pinned (OpenSpec.ofChange Rows.clockPartsSpec) :=
  OpenClaim.holds_of_wide 7 Try.f7 rfl rfl rfl rfl rfl rfl rfl ⟨rfl, rfl, rfl, rfl, rfl⟩ rfl rfl rfl rfl rfl (by kernel_rfl) Try.func7 (by kernel_rfl)
    (of_decide_eq_true (by kernel_rfl)) (by unfold Func.isWrapper; first | (rw [if_pos (by decide +kernel)]; kernel_rfl) | (rw [if_neg (by decide +kernel)]; exact ⟨rfl, rfl⟩))
    (fun os started H enc _ => lifted os started H enc)

/-- ████ THE STATEMENT ████ -/
theorem proved : Rows.ClockPartsSaid := over
#print axioms proved
end Go.Proofs.Ytlfmagnipmgglaa.clockParts
