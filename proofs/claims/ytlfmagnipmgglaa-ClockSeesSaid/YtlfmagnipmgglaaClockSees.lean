/-
  ClockSees is true for every list of times and every time: what a clock tells is the greatest of the times that it saw. No condition.
  The row's frame below was written by the kit's proof-skeleton.mjs; the walk is this session's own.
-/
import Derived.Test.YtlfmagnipmgglaaWalk
import Derived.WalkKit
import Derived.ProofKit
import Derived.OpenShut
import Derived.ShutString
import Derived.ChangeOld
import Derived.Below
namespace Go.Proofs.Ytlfmagnipmgglaa.clockSees
open Go.ChangeShapes Go.WideShapes Go.ChangeAt Go.RowKit
open Go.ChangeMaps (open_string shut_string)
set_option linter.unusedVariables false

theorem own : ownKnob Try.prog.godebug = none := by kernel_rfl
theorem laidOut : laidOutB Try.prog = true := by kernel_rfl

/-- WHAT THE WALK IS TOLD OF A SLICE OF INTEGERS THAT CAME IN: it is nil; or it leads to a row of 'cap' cells, the numbers 'zs' (the first 'len' are its elements, the rest its spare room), each fitting its kind. -/
def IsRow (k : IntKind) (w : World) (a : Option Addr) (len cap : Nat) (zs : List Int) : Prop :=
  (a = none ∧ len = 0 ∧ cap = 0 ∧ zs = []) ∨
  ∃ x, a = some x ∧ len ≤ cap ∧ cap ≤ maxLen ∧ zs.length = cap ∧ (∀ i, i < zs.length → w.cell? (x.add i) = some (.int k (zs.getD i 0))) ∧ ∀ n ∈ zs, (Lit.int k n).wf = true

/-- What the clock holds behind the first k times. -/
def Held (zs : List Int) (k : Nat) (s : Int) (kb : Bool) : Prop := (k = 0 → s = 0 ∧ kb = false) ∧ (0 < k → kb = true ∧ s = grt zs (k - 1))

theorem held_next {zs : List Int} {k : Nat} {s : Int} {kb : Bool} (h : Held zs k s kb) : seen s kb (zs.getD k 0) = grt zs k := by
  by_cases h0 : k = 0
  · subst h0
    obtain ⟨rfl, rfl⟩ := h.1 rfl
    simp [seen, grt]
  · obtain ⟨rfl, rfl⟩ := h.2 (by omega)
    have := seen_grt zs (k - 1)
    rwa [show k - 1 + 1 = k from by omega] at this

theorem held_of (zs : List Int) (k : Nat) : Held zs (k + 1) (grt zs k) true := ⟨fun e => by omega, fun _ => ⟨rfl, rfl⟩⟩

theorem start (w : World) : Below w.heap.size w ((w.alloc (.cells #[.int .i64 0, .bool false] 41)).alloc (.cells #[.int .i64 9, .bool true] 41)) ∧
    IsClk ((w.alloc (.cells #[.int .i64 0, .bool false] 41)).alloc (.cells #[.int .i64 9, .bool true] 41)) w.heap.size 0 false :=
  ⟨((Below.refl _ _).alloc (Nat.le_refl _) _).alloc (by simp) _, (IsClk.new w).below ((Below.refl _ _).alloc (Nat.le_refl _) _) (by simp)⟩

set_option maxHeartbeats 1000000 in
theorem walk_row (b off len cap : Nat) (zs : List Int) (x : Int) (w : World) (hb : b < w.heap.size) (hl : len ≤ cap) (hm : cap ≤ maxLen) (hz : zs.length = cap) (hcell : ∀ i, i < zs.length → w.cell? ⟨b, off + i, none⟩ = some (.int .i64 (zs.getD i 0))) :
    Calls Try.prog 5 #[.slice (some ⟨b, off, none⟩) len cap, .int .i64 x] w fun e w' => e = .returned (.bool true) ∧ Below w.heap.size w w' := by
  have hm' := hm
  unfold maxLen at hm
  go_enter Try.func5, Try.ntmps5
  go_upto_region 1 with fail
  go_cut [0] (fun v0 w' => ∃ n : Nat, n ≤ 300 ∧ n ≤ len ∧ v0 = .slice (some ⟨b, off, none⟩) n cap ∧ w = w')
  case first =>
    go_wp2
    all_goals (go_meet; first | exact ⟨300, by omega, by omega, rfl, rfl⟩ | exact ⟨len, by omega, by omega, rfl, rfl⟩)
  case rest =>
  obtain ⟨n, hn, hnl, rfl, rfl⟩ := hcut
  go_wp2_with (first | (go_at_call 9; refine (new_any _).mono ?_; rintro e w' ⟨rfl, rfl⟩) | (go_at_call 10; refine (alive_any _).mono ?_; rintro e w' ⟨rfl, rfl⟩) | (go_at_call 11; (with_reducible refine (see_nil _ _).mono ?_); rintro e w' ⟨rfl, rfl⟩) | (go_at_call 14; (with_reducible refine (last_nil _).mono ?_); rintro e w' ⟨rfl, rfl⟩))
  obtain ⟨HB, HC⟩ := start w
  refine (last_clk _ 0 false _ HC).mono ?_
  rintro e w1 ⟨rfl, hc1, ho1⟩
  have hb1 := ho1.below HB (Nat.le_refl _) HB.size
  clear HB HC ho1
  go_wp2_with fail
  go_loopg [59] n (fun g v59 wr => ∃ (k : Nat) (s : Int) (kb : Bool), k + g = n ∧ v59 = .int .i64 k ∧ Held zs k s kb ∧ IsClk wr w.heap.size s kb ∧ Below w.heap.size w wr)
  case atStart => exact ⟨0, 0, false, by omega, rfl, ⟨fun _ => ⟨rfl, rfl⟩, fun h => by omega⟩, hc1, hb1⟩
  case round =>
    clear hc1 hb1
    obtain ⟨k, s, kb, hkg, rfl, hh, hc, hbel⟩ := hrel
    by_cases hlt : k < n
    · have hcells : ∀ i, i < k + 1 → wr.cell? ⟨b, off + i, none⟩ = some (.int .i64 (zs.getD i 0)) := fun i hi => (hbel.cell (p := ⟨b, off + i, none⟩) hb).trans (hcell i (by omega))
      have hcw := hcells k (by omega)
      have hseen := held_next hh
      have hgr := greatest_any b off (k + 1) cap zs wr (by omega) (by omega) hm' hcells
      have hheld := held_of zs k
      obtain ⟨r, hr⟩ : ∃ r, grt zs k = r := ⟨_, rfl⟩
      obtain ⟨t, ht⟩ : ∃ t, zs.getD k 0 = t := ⟨_, rfl⟩
      rw [show k + 1 - 1 = k from by omega, hr] at hgr
      rw [ht] at hcw hseen
      rw [hr] at hseen hheld
      have Hs := Lib.hid hseen
      have Hg := Lib.hid hgr
      have Ha := Lib.hid hheld
      clear hseen hgr hr ht hcells hh hheld
      go_wp2_with fail
      refine Hg.out.mono ?_
      rintro e w' ⟨rfl, rfl⟩
      clear Hg
      go_wp2_with fail
      refine (see_at _ s kb t r _ hc Hs).mono ?_
      rintro e w2 ⟨rfl, hc2, ho2⟩
      have hb2 := ho2.below hbel (Nat.le_refl _) hbel.size
      clear hbel hc hcw Hs ho2
      go_wp2_with fail
      refine (last_clk _ r true _ hc2).mono ?_
      rintro e w3 ⟨rfl, hc3, ho3⟩
      have hb3 := ho3.below hb2 (Nat.le_refl _) hb2.size
      clear hb2 hc2 ho3
      go_wp2_with fail
      go_roundg (n - (k + 1))
      case measure => omega
      case rel => exact ⟨k + 1, r, true, by omega, by go_num, Ha.out, hc3, hb3⟩
    · go_wp2_with fail
      go_ret
      exact ⟨rfl, hbel⟩

theorem walk_none (a : Option Addr) (x : Int) (w : World) :
    Calls Try.prog 5 #[.slice a 0 0, .int .i64 x] w fun e w' => e = .returned (.bool true) ∧ Below w.heap.size w w' := by
  cases a
  all_goals
    go_enter Try.func5, Try.ntmps5
    go_wp2_with (first | (go_at_call 9; refine (new_any _).mono ?_; rintro e w' ⟨rfl, rfl⟩) | (go_at_call 10; refine (alive_any _).mono ?_; rintro e w' ⟨rfl, rfl⟩) | (go_at_call 11; (with_reducible refine (see_nil _ _).mono ?_); rintro e w' ⟨rfl, rfl⟩) | (go_at_call 14; (with_reducible refine (last_nil _).mono ?_); rintro e w' ⟨rfl, rfl⟩))
    obtain ⟨HB, HC⟩ := start w
    refine (last_clk _ 0 false _ HC).mono ?_
    rintro e w1 ⟨rfl, hc1, ho1⟩
    have hb1 := ho1.below HB (Nat.le_refl _) HB.size
    clear HB HC ho1
    go_wp2_with fail
    go_loopg [59] 0 (fun g v59 wr => v59 = .int .i64 0 ∧ Below w.heap.size w wr)
    case atStart => exact ⟨rfl, hb1⟩
    case round =>
      obtain ⟨rfl, hbel⟩ := hrel
      clear hb1 hc1
      go_wp2_with fail
      go_ret
      exact ⟨rfl, hbel⟩

theorem walk (a0 : Option Addr) (len0 cap0 : Nat) (z0 : List Int) (a1 : Int) (w : World) (w0 : IsRow .i64 w a0 len0 cap0 z0) (w1 : (Lit.int .i64 a1).wf = true) :
    Calls Try.prog 5 #[.slice a0 len0 cap0, .int .i64 a1] w fun e w' => e = .returned (.bool true) ∧ Below w.heap.size w w' := by
  rcases w0 with ⟨rfl, rfl, rfl, rfl⟩ | ⟨x, rfl, hl, hm, hz, hcell, _⟩
  · exact walk_none _ a1 w
  · by_cases h0 : cap0 = 0
    · subst h0
      obtain rfl : len0 = 0 := by omega
      exact walk_none _ a1 w
    · obtain ⟨b, off, rfl, hb, hc⟩ := row_cells hcell (by omega)
      exact walk_row b off len0 cap0 z0 a1 w hb hl hm hz hc

/-! ### THE ROW's STEP: WRITTEN OUT: LEAVE IT -/
set_option maxRecDepth 100000 in
theorem lifted (os : Os) (started : os.Started) (H : Type) (enc : TypeId × Value → H) :
    ReturnsInHanded {} Try.checked os 5 .any (Rows.clockSeesSpec.pre6 enc Try.prog Try.f5 Rows.clockSeesRow.domain false) (Rows.clockSeesSpec.post enc Try.prog Try.f5 false true false false) := by
  refine returnsInHanded_of_change (C := Try.checked) own started (by kernel_rfl) Try.func5
    (ChangeSpec.witness6 (enc := enc) (C := Try.checked) false ⟨#[], #[.slice none 0 0, .int .i64 0], []⟩ 8 (by kernel_rfl) (by kernel_rfl) (by kernel_rfl) (by kernel_rfl)) ?_
  intro W base args ds gs before hval0 hW hcnd _
  have hval : ∀ (j : Nat) t v, Try.f5.params[j]? = some t → args[j]? = some v → Value.okWide Try.prog W .any base t v := hval0
  have hW' := hW
  obtain ⟨p, q, hA0, hV, rfl, hfz, hnd⟩ := hW
  have hA : DataW.TrodAll enc Try.prog W 0 (fun _ => true) true Try.f5.params.toList args.toList ds p := hA0
  rw [Try.params5] at hA hval
  obtain ⟨v0, vs0, d0, ds0, p0, q0, hargs, rfl, rfl, h0, r0⟩ := trodAll_cons hA
  obtain ⟨v1, vs1, d1, ds1, p1, q1, rfl, rfl, rfl, h1, r1⟩ := trodAll_cons r0
  obtain ⟨rfl, rfl, rfl⟩ := trodAll_nil r1
  obtain rfl : args = #[v0, v1] := by cases args; simp_all
  obtain ⟨rfl, rfl⟩ := trodVars_none hV
  obtain ⟨a0, len0, cap0, rfl⟩ := okWide_slice Try.underlying22 (hval 0 22 v0 rfl rfl)
  have k0 := h0
  have lt0 : ∀ x ∈ p0, x.block < W.heap.size := by obtain ⟨m, hm⟩ := k0; exact DataW.trod_lt m _ _ _ hm
  obtain ⟨z0, w0⟩ : ∃ zs, IsRow .i64 W a0 len0 cap0 zs := by
    obtain ⟨fuel, hf⟩ := h0
    rcases open_ints Try.underlying22 Try.underlying2 (by kernel_rfl) hf with ⟨hcs, _⟩ | ⟨x, l, c, zs, hcs, _, hl, hm, hz, _, hcell, hwz⟩
    · simp [Value.cells] at hcs
      obtain ⟨rfl, rfl, rfl⟩ := hcs
      exact ⟨[], .inl ⟨rfl, rfl, rfl, rfl⟩⟩
    · simp [Value.cells] at hcs
      obtain ⟨rfl, rfl, rfl⟩ := hcs
      exact ⟨zs, .inr ⟨_, rfl, hl, hm, by simpa using hz, hcell, hwz⟩⟩
  obtain ⟨a1, rfl, rfl, rfl, w1⟩ := open_int Try.underlying2 (hval 1 2 v1 rfl rfl) h1
  clear hA0 hval0
  refine (walk a0 len0 cap0 z0 a1 W w0 w1).mono fun e W' ⟨he, bel⟩ => ?_
  subst he
  exact ⟨_, rfl, _, _, _, [], _, [], hW', trodAll_mk1 (shut_bool Try.underlying4 _), (trodAll_cons_mk (Below.trod laidOut (by kernel_rfl) (of_decide_eq_true (by kernel_rfl)) k0 bel lt0) (trodAll_cons_mk (shut_int Try.underlying2 w1) trodAll_mk0)), rfl, bel.frame _, fun h => by cases h⟩

theorem over : Rows.clockSeesRow.holds Try.pinned (OpenSpec.ofChange Rows.clockSeesSpec) :=
  OpenClaim.holds_of_wide 5 Try.f5 rfl rfl rfl rfl rfl rfl rfl ⟨rfl, rfl, rfl, rfl, rfl⟩ rfl rfl rfl rfl rfl (by kernel_rfl) Try.func5 (by kernel_rfl)
    (of_decide_eq_true (by kernel_rfl)) (by unfold Func.isWrapper; first | (rw [if_pos (by decide +kernel)]; kernel_rfl) | (rw [if_neg (by decide +kernel)]; exact ⟨rfl, rfl⟩))
    (fun os started H enc _ => lifted os started H enc)

/-- ████ THE STATEMENT ████ -/
theorem proved : Rows.ClockSeesSaid := over
#print axioms proved
end Go.Proofs.Ytlfmagnipmgglaa.clockSees
