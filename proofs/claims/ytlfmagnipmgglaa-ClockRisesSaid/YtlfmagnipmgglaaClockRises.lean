/-
  ClockRises is true for every list of times: what a clock tells never goes back, is never less than what was seen, and is one of the times seen. No condition.
  The row's frame below was written by the kit's proof-skeleton.mjs; the walk is this session's own.
-/
import Derived.Test.YtlfmagnipmgglaaWalk
import Derived.WalkKit
import Derived.ProofKit
import Derived.OpenShut
import Derived.ShutString
import Derived.ChangeOld
import Derived.Below
namespace Go.Proofs.Ytlfmagnipmgglaa.clockRises
open Go.ChangeShapes Go.WideShapes Go.ChangeAt Go.RowKit
open Go.ChangeMaps (open_string shut_string)
set_option linter.unusedVariables false

theorem own : ownKnob Try.prog.godebug = none := by kernel_rfl
theorem laidOut : laidOutB Try.prog = true := by kernel_rfl

/-- WHAT THE WALK IS TOLD OF A SLICE OF INTEGERS THAT CAME IN: it is nil; or it leads to a row of 'cap' cells, the numbers 'zs' (the first 'len' are its elements, the rest its spare room), each fitting its kind. -/
def IsRow (k : IntKind) (w : World) (a : Option Addr) (len cap : Nat) (zs : List Int) : Prop :=
  (a = none ∧ len = 0 ∧ cap = 0 ∧ zs = []) ∨
  ∃ x, a = some x ∧ len ≤ cap ∧ cap ≤ maxLen ∧ zs.length = cap ∧ (∀ i, i < zs.length → w.cell? (x.add i) = some (.int k (zs.getD i 0))) ∧ ∀ n ∈ zs, (Lit.int k n).wf = true

/-- What the clock holds behind the first k times, and what was told last. -/
def Held (zs : List Int) (k : Nat) (s : Int) (kb : Bool) : Prop := (k = 0 → s = 0 ∧ kb = false) ∧ (0 < k → kb = true ∧ s ∈ zs.take k)

theorem held_next {zs : List Int} {k : Nat} {s : Int} {kb : Bool} (h : Held zs k s kb) (hk : k < zs.length) : Held zs (k + 1) (seen s kb (zs.getD k 0)) true := by
  have hm : zs.getD k 0 ∈ zs.take (k + 1) := (mem_take_next hk _).2 (.inr rfl)
  refine ⟨fun e => by omega, fun _ => ⟨rfl, ?_⟩⟩
  unfold seen
  split
  · exact hm
  · rename_i hc
    have hkb : kb ≠ false := fun e => hc (.inl e)
    by_cases h0 : k = 0
    · exact absurd (h.1 h0).2 hkb
    · have := (h.2 (by omega)).2
      exact (mem_take_next hk _).2 (.inl this)

theorem seen_ge (s : Int) (kb : Bool) (t : Int) : t ≤ seen s kb t := by unfold seen; split <;> omega
theorem seen_mono {zs : List Int} {k : Nat} {s : Int} {kb : Bool} (h : Held zs k s kb) (hk : 0 < k) (t : Int) : s ≤ seen s kb t := by
  have := (h.2 hk).1
  unfold seen; split <;> rename_i hc
  · rcases hc with hc | hc
    · rw [hc] at this; cases this
    · omega
  · omega

set_option maxHeartbeats 1000000 in
theorem walk_row (b off len cap : Nat) (zs : List Int) (w : World) (hb : b < w.heap.size) (hl : len ≤ cap) (hm : cap ≤ maxLen) (hz : zs.length = cap) (hcell : ∀ i, i < zs.length → w.cell? ⟨b, off + i, none⟩ = some (.int .i64 (zs.getD i 0))) :
    Calls Try.prog 3 #[.slice (some ⟨b, off, none⟩) len cap] w fun e w' => e = .returned (.bool true) ∧ Below w.heap.size w w' := by
  unfold maxLen at hm
  go_enter Try.func3, Try.ntmps3
  go_upto_region 1 with fail
  go_cut [0] (fun v0 w' => ∃ n : Nat, n ≤ 300 ∧ n ≤ len ∧ v0 = .slice (some ⟨b, off, none⟩) n cap ∧ w = w')
  case first =>
    go_wp2
    all_goals (go_meet; first | exact ⟨300, by omega, by omega, rfl, rfl⟩ | exact ⟨len, by omega, by omega, rfl, rfl⟩)
  case rest =>
  obtain ⟨n, hn, hnl, rfl, rfl⟩ := hcut
  have hcl := IsClk.new w
  have HB : Below w.heap.size w ((w.alloc (.cells #[.int .i64 0, .bool false] 41)).alloc (.cells #[.int .i64 9, .bool true] 41)) := ((Below.refl _ _).alloc (Nat.le_refl _) _).alloc (by simp) _
  have HC : IsClk ((w.alloc (.cells #[.int .i64 0, .bool false] 41)).alloc (.cells #[.int .i64 9, .bool true] 41)) w.heap.size 0 false := hcl.below ((Below.refl _ _).alloc (Nat.le_refl _) _) (by simp)
  clear hcl
  go_wp2_with (first | (go_at_call 9; refine (new_any _).mono ?_; rintro e w' ⟨rfl, rfl⟩) | (go_at_call 10; refine (alive_any _).mono ?_; rintro e w' ⟨rfl, rfl⟩))
  go_loopg [4, 25] n (fun g v4 v25 wr => ∃ (k : Nat) (s : Int) (kb : Bool), k + g = n ∧ v25 = .int .i64 k ∧ v4 = .int .i64 s ∧ Held zs k s kb ∧ IsClk wr w.heap.size s kb ∧ Below w.heap.size w wr)
  case atStart => exact ⟨0, 0, false, by omega, rfl, rfl, ⟨fun _ => ⟨rfl, rfl⟩, fun h => by omega⟩, HC, HB⟩
  case round =>
    clear HB HC
    obtain ⟨k, s, kb, hkg, rfl, rfl, hh, hc, hbel⟩ := hrel
    by_cases hlt : k < n
    · have hcw : wr.cell? ⟨b, off + k, none⟩ = some (.int .i64 (zs.getD k 0)) := (hbel.cell (p := ⟨b, off + k, none⟩) hb).trans (hcell k (by omega))
      obtain ⟨r, hr⟩ : ∃ r, seen s kb (zs.getD k 0) = r := ⟨_, rfl⟩
      have hh1 := held_next hh (k := k) (by omega)
      have hge := seen_ge s kb (zs.getD k 0)
      have hmono : 0 < k → s ≤ r := fun h0 => by rw [← hr]; exact seen_mono hh h0 _
      rw [hr] at hge hh1
      have hmem := (hh1.2 (by omega)).2
      obtain ⟨t, ht⟩ : ∃ t, zs.getD k 0 = t := ⟨_, rfl⟩
      rw [ht] at hge hcw hr
      have Hr := Lib.hid hr
      have Hm := Lib.hid hmem
      have Ha := Lib.hid hh1
      clear hr ht hmem hh1 hh
      go_wp2_with fail
      refine (see_at _ s kb t r _ hc Hr).mono ?_
      rintro e w1 ⟨rfl, hc1, ho1⟩
      have hbel1 := ho1.below hbel (Nat.le_refl _) hbel.size
      clear hbel hc hcw Hr
      go_wp2_with fail
      go_loopg [8, 38] (k + 1) (fun g v8 v38 wi => ∃ j : Nat, j + g = k + 1 ∧ v38 = .int .i64 j ∧ v8 = .bool (decide (r ∈ zs.take j)) ∧ wi = w1)
      case atStart => exact ⟨0, by omega, rfl, rfl, rfl⟩
      case round =>
        obtain ⟨j, hj, rfl, rfl, rfl⟩ := hrel
        by_cases hjk : j < k + 1
        · have hcw : wr.cell? ⟨b, off + j, none⟩ = some (.int .i64 (zs.getD j 0)) := (hbel1.cell (p := ⟨b, off + j, none⟩) hb).trans (hcell j (by omega))
          have hnx := mem_take_next (zs := zs) (k := j) (by omega) r
          obtain ⟨y, hy⟩ : ∃ y, zs.getD j 0 = y := ⟨_, rfl⟩
          rw [hy] at hcw hnx
          have Hn := Lib.hid hnx
          clear hy hnx
          obtain ⟨bb, hbb⟩ : ∃ bb, decide (r ∈ zs.take j) = bb := ⟨_, rfl⟩
          rw [hbb]
          have Hb := Lib.hid hbb
          clear hbb
          cases bb with
          | true =>
            go_wp2
            go_roundg (k - j)
            case measure => omega
            case rel => exact ⟨j + 1, by omega, by go_num, by rw [decide_eq_true (Hn.out.2 (.inl (of_decide_eq_true Hb.out)))], rfl⟩
          | false =>
            go_wp2
            go_roundg (k - j)
            case measure => omega
            case rel =>
              refine ⟨j + 1, by omega, by go_num, ?_, rfl⟩
              have hnot := of_decide_eq_false Hb.out
              congr 1
              by_cases hry : r = y
              · rw [decide_eq_true (Hn.out.2 (.inr hry))]; simp [hry]
              · rw [decide_eq_false (fun hm => (Hn.out.1 hm).elim hnot hry)]; simp [hry]
        · have hjk' : j = k + 1 := by omega
          subst hjk'
          rw [decide_eq_true Hm.out]
          by_cases hk0 : 0 < k
          · have hsr := hmono hk0
            clear hmono
            go_wp2
            go_roundg (n - (k + 1))
            case measure => omega
            case rel => exact ⟨k + 1, r, true, by omega, by go_num, rfl, Ha.out, hc1, hbel1⟩
          · clear hmono
            go_wp2
            go_roundg (n - (k + 1))
            case measure => omega
            case rel => exact ⟨k + 1, r, true, by omega, by go_num, rfl, Ha.out, hc1, hbel1⟩
    · go_wp2
      go_ret
      exact ⟨rfl, hbel⟩

theorem walk_none (a : Option Addr) (w : World) :
    Calls Try.prog 3 #[.slice a 0 0] w fun e w' => e = .returned (.bool true) ∧ Below w.heap.size w w' := by
  have HB : Below w.heap.size w ((w.alloc (.cells #[.int .i64 0, .bool false] 41)).alloc (.cells #[.int .i64 9, .bool true] 41)) := ((Below.refl _ _).alloc (Nat.le_refl _) _).alloc (by simp) _
  cases a
  all_goals
    go_enter Try.func3, Try.ntmps3
    go_wp2_with (first | (go_at_call 9; refine (new_any _).mono ?_; rintro e w' ⟨rfl, rfl⟩) | (go_at_call 10; refine (alive_any _).mono ?_; rintro e w' ⟨rfl, rfl⟩))
    go_loopg [4, 25] 0 (fun g v4 v25 wr => v25 = .int .i64 0 ∧ Below w.heap.size w wr)
    case atStart => exact ⟨rfl, HB⟩
    case round =>
      clear HB
      obtain ⟨rfl, hbel⟩ := hrel
      go_wp2
      go_ret
      exact ⟨rfl, hbel⟩

theorem walk (a0 : Option Addr) (len0 cap0 : Nat) (z0 : List Int) (w : World) (w0 : IsRow .i64 w a0 len0 cap0 z0) :
    Calls Try.prog 3 #[.slice a0 len0 cap0] w fun e w' => e = .returned (.bool true) ∧ Below w.heap.size w w' := by
  rcases w0 with ⟨rfl, rfl, rfl, rfl⟩ | ⟨x, rfl, hl, hm, hz, hcell, _⟩
  · exact walk_none _ w
  · by_cases h0 : cap0 = 0
    · subst h0
      obtain rfl : len0 = 0 := by omega
      exact walk_none _ w
    · obtain ⟨b, off, rfl, hb, hc⟩ := row_cells hcell (by omega)
      exact walk_row b off len0 cap0 z0 w hb hl hm hz hc

/-! ### THE ROW's STEP: WRITTEN OUT: LEAVE IT -/
set_option maxRecDepth 100000 in
theorem lifted (os : Os) (started : os.Started) (H : Type) (enc : TypeId × Value → H) :
    ReturnsInHanded {} Try.checked os 3 .any (Rows.clockRisesSpec.pre6 enc Try.prog Try.f3 Rows.clockRisesRow.domain false) (Rows.clockRisesSpec.post enc Try.prog Try.f3 false true false false) := by
  refine returnsInHanded_of_change (C := Try.checked) own started (by kernel_rfl) Try.func3
    (ChangeSpec.witness6 (enc := enc) (C := Try.checked) false ⟨#[], #[.slice none 0 0], []⟩ 8 (by kernel_rfl) (by kernel_rfl) (by kernel_rfl) (by kernel_rfl)) ?_
  intro W base args ds gs before hval0 hW hcnd _
  have hval : ∀ (j : Nat) t v, Try.f3.params[j]? = some t → args[j]? = some v → Value.okWide Try.prog W .any base t v := hval0
  have hW' := hW
  obtain ⟨p, q, hA0, hV, rfl, hfz, hnd⟩ := hW
  have hA : DataW.TrodAll enc Try.prog W 0 (fun _ => true) true Try.f3.params.toList args.toList ds p := hA0
  rw [Try.params3] at hA hval
  obtain ⟨v0, vs0, d0, ds0, p0, q0, hargs, rfl, rfl, h0, r0⟩ := trodAll_cons hA
  obtain ⟨rfl, rfl, rfl⟩ := trodAll_nil r0
  obtain rfl : args = #[v0] := by cases args; simp_all
  obtain ⟨rfl, rfl⟩ := trodVars_none hV
  obtain ⟨a0, len0, cap0, rfl⟩ := okWide_slice Try.underlying22 (hval 0 22 v0 rfl rfl)
  have k0 := h0
  have lt0 : ∀ x ∈ p0, x.block < W.heap.size := by obtain ⟨m, hm⟩ := k0; exact DataW.trod_lt m _ _ _ hm
  obtain ⟨z0, w0⟩ : ∃ zs, IsRow .i64 W a0 len0 cap0 zs := by
    obtain ⟨fuel, hf⟩ := h0
    rcases open_ints Try.underlying22 Try.underlying2 (by kernel_rfl) hf with ⟨hcs, _⟩ | ⟨x, l, c, zs, hcs, _, hl, hm, hz, _, hcell, hwz⟩
    · simp [Value.cells] at hcs
      obtain ⟨rfl, rfl, rfl⟩ := hcs
      exact ⟨[], .inl ⟨rfl, rfl, rfl, rfl⟩⟩
    · simp [Value.cells] at hcs
      obtain ⟨rfl, rfl, rfl⟩ := hcs
      exact ⟨zs, .inr ⟨_, rfl, hl, hm, by simpa using hz, hcell, hwz⟩⟩
  clear hA0 hval0
  refine (walk a0 len0 cap0 z0 W w0).mono fun e W' ⟨he, bel⟩ => ?_
  subst he
  exact ⟨_, rfl, _, _, _, [], _, [], hW', trodAll_mk1 (shut_bool Try.underlying4 _), (trodAll_cons_mk (Below.trod laidOut (by kernel_rfl) (of_decide_eq_true (by kernel_rfl)) k0 bel lt0) trodAll_mk0), rfl, bel.frame _, fun h => by cases h⟩

theorem over : Rows.clockRisesRow.holds Try.pinned (OpenSpec.ofChange Rows.clockRisesSpec) :=
  OpenClaim.holds_of_wide 3 Try.f3 rfl rfl rfl rfl rfl rfl rfl ⟨rfl, rfl, rfl, rfl, rfl⟩ rfl rfl rfl rfl rfl (by kernel_rfl) Try.func3 (by kernel_rfl)
    (of_decide_eq_true (by kernel_rfl)) (by unfold Func.isWrapper; first | (rw [if_pos (by decide +kernel)]; kernel_rfl) | (rw [if_neg (by decide +kernel)]; exact ⟨rfl, rfl⟩))
    (fun os started H enc _ => lifted os started H enc)

/-- ████ THE STATEMENT ████ -/
theorem proved : Rows.ClockRisesSaid := over
#print axioms proved
end Go.Proofs.Ytlfmagnipmgglaa.clockRises
