/-
  The walks of the clock's own functions (New, See, Last, Delta, Add, Spent), of the reference's and of 'alive': what each answers and what becomes of memory.
-/
import Derived.Test.YtlfmagnipmgglaaRows
import Derived.WalkKit
import Derived.WalkSpells
import Derived.WalkLawsBesides
import Derived.BigQuiet
import Derived.Deep.QuietTactic
import Derived.OpenShut
import Derived.Deep.LoopGhost
import Derived.Deep.DeepCutAuto
import Derived.Deep.CutBlock
import Derived.Lib.Hide
namespace Go.Proofs.Ytlfmagnipmgglaa
open Go.RowKit

theorem new_any (w : World) :
    Calls Try.prog 9 #[] w fun e w' => e = .returned (.pointer (some ⟨w.heap.size, 0, none⟩)) ∧ w.alloc (.cells #[.int .i64 0, .bool false] 41) = w' := by
  go_enter Try.func9, Try.ntmps9
  go_wp2
  go_ret
  exact ⟨rfl, rfl⟩

theorem see_nil (t : Int) (w : World) :
    Calls Try.prog 11 #[.pointer none, .int .i64 t] w fun e w' => e = .returned (.int .i64 t) ∧ w = w' := by
  go_enter Try.func11, Try.ntmps11
  go_wp2
  go_ret
  exact ⟨rfl, rfl⟩

theorem see_first (b : Nat) (t : Int) (w : World) (h0 : w.cell? ⟨b, 0, none⟩ = some (.int .i64 0)) (h1 : w.cell? ⟨b, 1, none⟩ = some (.bool false)) (f0 : w.frozen? ⟨b, 0, none⟩ = false) (f1 : w.frozen? ⟨b, 1, none⟩ = false) :
    Calls Try.prog 11 #[.pointer (some ⟨b, 0, none⟩), .int .i64 t] w fun e w' => e = .returned (.int .i64 t) ∧ (w.setCell ⟨b, 0, none⟩ (.int .i64 t)).setCell ⟨b, 1, none⟩ (.bool true) = w' := by
  go_enter Try.func11, Try.ntmps11
  go_wp2
  go_ret
  exact ⟨rfl, rfl⟩

theorem see_more (b : Nat) (s t : Int) (hlt : s < t) (w : World) (h0 : w.cell? ⟨b, 0, none⟩ = some (.int .i64 s)) (h1 : w.cell? ⟨b, 1, none⟩ = some (.bool true)) (f0 : w.frozen? ⟨b, 0, none⟩ = false) (f1 : w.frozen? ⟨b, 1, none⟩ = false) :
    Calls Try.prog 11 #[.pointer (some ⟨b, 0, none⟩), .int .i64 t] w fun e w' => e = .returned (.int .i64 t) ∧ (w.setCell ⟨b, 0, none⟩ (.int .i64 t)).setCell ⟨b, 1, none⟩ (.bool true) = w' := by
  go_enter Try.func11, Try.ntmps11
  go_wp2
  go_ret
  exact ⟨rfl, rfl⟩

theorem see_less (b : Nat) (s t : Int) (hlt : ¬ s < t) (w : World) (h0 : w.cell? ⟨b, 0, none⟩ = some (.int .i64 s)) (h1 : w.cell? ⟨b, 1, none⟩ = some (.bool true)) :
    Calls Try.prog 11 #[.pointer (some ⟨b, 0, none⟩), .int .i64 t] w fun e w' => e = .returned (.int .i64 s) ∧ w = w' := by
  go_enter Try.func11, Try.ntmps11
  go_wp2
  go_ret
  exact ⟨rfl, rfl⟩

theorem last_nil (w : World) :
    Calls Try.prog 14 #[.pointer none] w fun e w' => e = .returned (.tuple #[.int .i64 0, .bool false]) ∧ w = w' := by
  go_enter Try.func14, Try.ntmps14
  go_wp2
  go_ret2
  exact ⟨rfl, rfl⟩

theorem last_any (b : Nat) (s : Int) (k : Bool) (w : World) (h0 : w.cell? ⟨b, 0, none⟩ = some (.int .i64 s)) (h1 : w.cell? ⟨b, 1, none⟩ = some (.bool k)) :
    Calls Try.prog 14 #[.pointer (some ⟨b, 0, none⟩)] w fun e w' => e = .returned (.tuple #[.int .i64 s, .bool k]) ∧ ∃ n, w' = w.drewN n := by
  go_enter Try.func14, Try.ntmps14
  go_wp2
  go_quiet (fail)
  go_wp2
  go_ret2
  exact ⟨rfl, _, rfl⟩

/-! ### plain arithmetic of the wraps -/
theorem u64w (n : Int) : IntKind.u64.wrap n = n % 18446744073709551616 := by
  simp [IntKind.wrap, IntKind.bits, IntKind.signed]

def delta (a b : Int) : Int := wrap64 (b - a)
def addd (a b : Int) : Int := wrap64 (a + b)

/-- an int64 -/
def I64 (a : Int) : Prop := -9223372036854775808 ≤ a ∧ a ≤ 9223372036854775807

theorem ret_num {k : IntKind} {a b : Int} (h : a = b) : Ending.returned (.int k a) = .returned (.int k b) := by rw [h]

theorem refdelta_eq (a b : Int) : wrap64 (IntKind.u64.wrap (IntKind.u64.wrap b - IntKind.u64.wrap a)) = delta a b := by
  simp only [u64w, wrap64, delta]; omega
theorem refadd_eq (a b : Int) : wrap64 (IntKind.u64.wrap (IntKind.u64.wrap a + IntKind.u64.wrap b)) = addd a b := by
  simp only [u64w, wrap64, addd]; omega
theorem spent_eq (a b : Int) (ha : I64 a) (hb : I64 b) (h : a ≤ b) : IntKind.u64.wrap (IntKind.u64.wrap b - IntKind.u64.wrap a) = b - a := by
  obtain ⟨a1, a2⟩ := ha; obtain ⟨b1, b2⟩ := hb
  simp only [u64w]; omega
theorem refspent_eq (a b : Int) (ha : I64 a) (hb : I64 b) (h : a < 0) (_h : 0 ≤ b) :
    IntKind.u64.wrap (IntKind.u64.wrap (IntKind.u64.wrap (wrap64 (-wrap64 (a + 1))) + 1) + IntKind.u64.wrap b) = b - a := by
  obtain ⟨a1, a2⟩ := ha; obtain ⟨b1, b2⟩ := hb
  simp only [u64w, wrap64]; omega
theorem refspent_eq' (a b : Int) (ha : I64 a) (hb : I64 b) (h : a ≤ b) (_h : ¬ (a < 0 ∧ 0 ≤ b)) :
    IntKind.u64.wrap (wrap64 (b - a)) = b - a := by
  obtain ⟨a1, a2⟩ := ha; obtain ⟨b1, b2⟩ := hb
  simp only [u64w, wrap64]; omega

theorem delta_any (a b : Int) (w : World) :
    Calls Try.prog 12 #[.int .i64 a, .int .i64 b] w fun e w' => e = .returned (.int .i64 (delta a b)) ∧ w = w' := by
  go_enter Try.func12, Try.ntmps12
  go_wp2
  go_ret
  exact ⟨rfl, rfl⟩

theorem add_any (a b : Int) (w : World) :
    Calls Try.prog 13 #[.int .i64 a, .int .i64 b] w fun e w' => e = .returned (.int .i64 (addd a b)) ∧ w = w' := by
  go_enter Try.func13, Try.ntmps13
  go_wp2
  go_ret
  exact ⟨rfl, rfl⟩

theorem refdelta_any (a b : Int) (w : World) :
    Calls Try.prog 17 #[.int .i64 a, .int .i64 b] w fun e w' => e = .returned (.int .i64 (delta a b)) ∧ w = w' := by
  go_enter Try.func17, Try.ntmps17
  go_wp2
  go_ret
  exact ⟨ret_num (refdelta_eq a b), rfl⟩

theorem refadd_any (a b : Int) (w : World) :
    Calls Try.prog 18 #[.int .i64 a, .int .i64 b] w fun e w' => e = .returned (.int .i64 (addd a b)) ∧ w = w' := by
  go_enter Try.func18, Try.ntmps18
  go_wp2
  go_ret
  exact ⟨ret_num (refadd_eq a b), rfl⟩

/-- how long it is -/
def spent (a b : Int) : Int := if b < a then 0 else b - a

theorem spent_ge {a b : Int} (h : a ≤ b) : spent a b = b - a := by unfold spent; rw [if_neg (by omega)]

theorem spent_any (a b : Int) (ha : I64 a) (hb : I64 b) (w : World) :
    Calls Try.prog 16 #[.int .i64 a, .int .i64 b] w fun e w' => e = .returned (.int .u64 (spent a b)) ∧ w = w' := by
  by_cases h : b < a
  · go_enter Try.func16, Try.ntmps16
    go_wp2
    go_ret
    exact ⟨ret_num (by simp [spent, h]), rfl⟩
  · go_enter Try.func16, Try.ntmps16
    go_wp2
    go_ret
    exact ⟨ret_num (by rw [spent_eq a b ha hb h, spent_ge h]), rfl⟩

theorem refspent_any (a b : Int) (ha : I64 a) (hb : I64 b) (w : World) :
    Calls Try.prog 19 #[.int .i64 a, .int .i64 b] w fun e w' => e = .returned (.int .u64 (spent a b)) ∧ w = w' := by
  by_cases h : b < a
  · go_enter Try.func19, Try.ntmps19
    go_wp2
    go_ret
    exact ⟨ret_num (by simp [spent, h]), rfl⟩
  · by_cases h1 : a < 0
    · by_cases h2 : 0 ≤ b
      · go_enter Try.func19, Try.ntmps19
        go_wp2
        go_ret
        exact ⟨ret_num (by rw [refspent_eq a b ha hb h1 h2, spent_ge h]), rfl⟩
      · go_enter Try.func19, Try.ntmps19
        go_wp2
        go_ret
        exact ⟨ret_num (by rw [refspent_eq' a b ha hb h (by omega), spent_ge h]), rfl⟩
    · go_enter Try.func19, Try.ntmps19
      go_wp2
      go_ret
      exact ⟨ret_num (by rw [refspent_eq' a b ha hb h (by omega), spent_ge h]), rfl⟩

theorem ret_bool {a b : Bool} (h : a = b) : Ending.returned (.bool a) = .returned (.bool b) := by rw [h]

theorem one_eq : (wrap64 (-18446744073709551615) == 1) = true := by unfold wrap64; decide

theorem alive_any (w : World) :
    Calls Try.prog 10 #[] w fun e w' => e = .returned (.bool true) ∧ w.alloc (.cells #[.int .i64 9, .bool true] 41) = w' := by
  go_enter Try.func10, Try.ntmps10
  go_wp2
  go_ret
  exact ⟨ret_bool one_eq, rfl⟩

theorem i64_of {a : Int} (h : (Lit.int .i64 a).wf = true) : I64 a := by
  have := bounds_i64 h
  exact this

/-- What the clock that holds s tells of t (k: whether it saw a time). -/
def seen (s : Int) (k : Bool) (t : Int) : Int := if k = false ∨ s < t then t else s

/-! ### a clock in memory -/
/-- Block b is a clock that holds s, and whether it saw a time: k. -/
structure IsClk (w : World) (b : Nat) (s : Int) (k : Bool) : Prop where
  c0 : w.cell? ⟨b, 0, none⟩ = some (.int .i64 s)
  c1 : w.cell? ⟨b, 1, none⟩ = some (.bool k)
  f0 : w.frozen? ⟨b, 0, none⟩ = false
  f1 : w.frozen? ⟨b, 1, none⟩ = false
  z : k = false → s = 0

theorem IsClk.lt {w : World} {b : Nat} {s : Int} {k : Bool} (h : IsClk w b s k) : b < w.heap.size := World.block_lt_of_cell? w _ h.c0

theorem IsClk.new (w : World) : IsClk (w.alloc (.cells #[.int .i64 0, .bool false] 41)) w.heap.size 0 false :=
  ⟨by simp, by simp, by simp, by simp, fun _ => rfl⟩

/-- A clock stays where below a later block nothing has turned. -/
theorem IsClk.below {w w' : World} {b : Nat} {s : Int} {k : Bool} (h : IsClk w b s k) {B : Nat} (hb : Below B w w') (hB : b < B) : IsClk w' b s k :=
  ⟨(hb.cell (p := ⟨b, 0, none⟩) hB).trans h.c0, (hb.cell (p := ⟨b, 1, none⟩) hB).trans h.c1, (hb.frozen (p := ⟨b, 0, none⟩) hB).trans h.f0, (hb.frozen (p := ⟨b, 1, none⟩) hB).trans h.f1, h.z⟩


theorem cell_ne_off {b i j : Nat} (h : i ≠ j) : (⟨b, i, none⟩ : Addr) ≠ ⟨b, j, none⟩ := by
  intro e; exact h (by simpa using congrArg Addr.off e)

theorem IsClk.set {w : World} {b : Nat} {s : Int} {k : Bool} (h : IsClk w b s k) (t : Int) : IsClk ((w.setCell ⟨b, 0, none⟩ (.int .i64 t)).setCell ⟨b, 1, none⟩ (.bool true)) b t true := by
  refine ⟨?_, ?_, ?_, ?_, fun e => by cases e⟩
  · rw [World.cell?_setCell_other _ _ _ _ (cell_ne_off (by decide))]; exact World.cell?_setCell_same _ _ _ h.c0
  · refine World.cell?_setCell_same _ _ _ (u := .bool k) ?_
    rw [World.cell?_setCell_other _ _ _ _ (cell_ne_off (by decide))]; exact h.c1
  · simpa using h.f0
  · simpa using h.f1

/-- Of what is not the clock's block nothing has turned, and there are no more blocks. -/
structure Only (b : Nat) (w w' : World) : Prop where
  g : w.grownBy w' (some b)
  n : w'.heap.size = w.heap.size

theorem Only.below {b : Nat} {w0 w w' : World} (h : Only b w w') {B : Nat} (hb : Below B w0 w) (hB : B ≤ b) (hs : B ≤ w.heap.size) : Below B w0 w' :=
  hb.grown h.g hs (fun k e => by cases e; exact hB)

/-- Another clock stays. -/
theorem IsClk.other {w w' : World} {b c : Nat} {s : Int} {k : Bool} (h : IsClk w b s k) (ho : Only c w w') (hne : b ≠ c) : IsClk w' b s k := by
  have e := ho.g.block b h.lt (by intro e; cases e; exact hne rfl)
  have hc : ∀ o, w'.cell? ⟨b, o, none⟩ = w.cell? ⟨b, o, none⟩ := fun o => World.cell?_of_block (a := ⟨b, o, none⟩) e
  have hf : ∀ o, w'.frozen? ⟨b, o, none⟩ = w.frozen? ⟨b, o, none⟩ := fun o => World.frozen?_of_block (a := ⟨b, o, none⟩) e
  exact ⟨(hc 0).trans h.c0, (hc 1).trans h.c1, (hf 0).trans h.f0, (hf 1).trans h.f1, h.z⟩

theorem only_set (w : World) (b : Nat) (x y : Value) : Only b w ((w.setCell ⟨b, 0, none⟩ x).setCell ⟨b, 1, none⟩ y) :=
  ⟨⟨rfl, rfl, rfl, by simp, fun k _ hk => by
    have hk' : k ≠ b := fun e => hk (by rw [e])
    rw [Below.heap_setCell _ _ _ _ hk', Below.heap_setCell _ _ _ _ hk']⟩, by simp⟩

theorem see_any (b : Nat) (s : Int) (k : Bool) (t : Int) (w : World) (h : IsClk w b s k) :
    Calls Try.prog 11 #[.pointer (some ⟨b, 0, none⟩), .int .i64 t] w fun e w' => e = .returned (.int .i64 (seen s k t)) ∧ IsClk w' b (seen s k t) true ∧ Only b w w' := by
  cases k with
  | false =>
    obtain rfl := h.z rfl
    refine (see_first b t w h.c0 h.c1 h.f0 h.f1).mono ?_
    rintro e w' ⟨rfl, rfl⟩
    have e1 : seen 0 false t = t := by simp [seen]
    rw [e1]
    exact ⟨rfl, h.set t, only_set _ _ _ _⟩
  | true =>
    by_cases hlt : s < t
    · refine (see_more b s t hlt w h.c0 h.c1 h.f0 h.f1).mono ?_
      rintro e w' ⟨rfl, rfl⟩
      have e1 : seen s true t = t := by simp [seen, hlt]
      rw [e1]
      exact ⟨rfl, h.set t, only_set _ _ _ _⟩
    · refine (see_less b s t hlt w h.c0 h.c1).mono ?_
      rintro e w' ⟨rfl, rfl⟩
      have e1 : seen s true t = s := by simp [seen, hlt]
      rw [e1]
      exact ⟨rfl, h, ⟨rfl, rfl, rfl, Nat.le_refl _, fun _ _ _ => rfl⟩, rfl⟩

theorem below_drewN (w : World) (n : Nat) (B : Nat) : Below B w (w.drewN n) := ⟨rfl, rfl, rfl, Nat.le_refl _, fun _ _ => rfl⟩

theorem size_drewN (w : World) (n : Nat) : (w.drewN n).heap.size = w.heap.size := rfl

/-! ### the reference's greatest time -/
/-- The greatest of the first k + 1 numbers. -/
def grt (zs : List Int) : Nat → Int
  | 0 => zs.getD 0 0
  | k + 1 => if grt zs k < zs.getD (k + 1) 0 then zs.getD (k + 1) 0 else grt zs k

theorem seen_grt (zs : List Int) (k : Nat) : seen (grt zs k) true (zs.getD (k + 1) 0) = grt zs (k + 1) := by
  simp only [seen, grt]; simp

set_option maxHeartbeats 400000 in
theorem greatest_any (b off len cap : Nat) (zs : List Int) (w : World) (h1 : 1 ≤ len) (hl : len ≤ cap) (hm : cap ≤ maxLen) (hcell : ∀ i, i < len → w.cell? ⟨b, off + i, none⟩ = some (.int .i64 (zs.getD i 0))) :
    Calls Try.prog 15 #[.slice (some ⟨b, off, none⟩) len cap] w fun e w' => e = .returned (.int .i64 (grt zs (len - 1))) ∧ w = w' := by
  unfold maxLen at hm
  have h0 : w.cell? ⟨b, off, none⟩ = some (.int .i64 (grt zs 0)) := hcell 0 (by omega)
  go_enter Try.func15, Try.ntmps15
  go_wp2
  clear h0
  go_loopg [3, 4] (len - 1) (fun g v3 v4 wr => ∃ k : Nat, k + g = len - 1 ∧ v4 = .int .i64 ((k : Int) + 1) ∧ v3 = .int .i64 (grt zs k) ∧ wr = w)
  case atStart => exact ⟨0, by omega, rfl, rfl, rfl⟩
  case round =>
    obtain ⟨k, hk, rfl, rfl, rfl⟩ := hrel
    by_cases hlt : k + 1 < len
    · have hc : wr.cell? ⟨b, off + (k + 1), none⟩ = some (.int .i64 (zs.getD (k + 1) 0)) := hcell (k + 1) hlt
      have hg : grt zs (k + 1) = if grt zs k < zs.getD (k + 1) 0 then zs.getD (k + 1) 0 else grt zs k := rfl
      obtain ⟨y, hy⟩ : ∃ y, zs.getD (k + 1) 0 = y := ⟨_, rfl⟩
      obtain ⟨g0, hg0⟩ : ∃ g0, grt zs k = g0 := ⟨_, rfl⟩
      rw [hy, hg0] at hg
      rw [hy] at hc
      rw [hg0]
      have Hg := Lib.hid hg
      clear hg hy hg0 hcell
      by_cases hyg : g0 < y
      · go_wp2
        go_roundg (len - 1 - (k + 1))
        case measure => omega
        case rel => exact ⟨k + 1, by omega, by go_num, by rw [Hg.out, if_pos hyg], rfl⟩
      · go_wp2
        go_roundg (len - 1 - (k + 1))
        case measure => omega
        case rel => exact ⟨k + 1, by omega, by go_num, by rw [Hg.out, if_neg (by omega)], rfl⟩
    · have hk' : len - 1 = k := by omega
      go_wp2
      go_ret
      exact ⟨ret_num (by rw [hk']), rfl⟩

theorem last_clk (b : Nat) (s : Int) (k : Bool) (w : World) (h : IsClk w b s k) :
    Calls Try.prog 14 #[.pointer (some ⟨b, 0, none⟩)] w fun e w' => e = .returned (.tuple #[.int .i64 s, .bool k]) ∧ IsClk w' b s k ∧ Only b w w' := by
  refine (last_any b s k w h.c0 h.c1).mono ?_
  rintro e w' ⟨rfl, n, rfl⟩
  have hb := below_drewN w n w.heap.size
  exact ⟨rfl, h.below hb h.lt, ⟨hb.os, hb.tape, hb.output, hb.size, fun k hk _ => hb.block k hk⟩, size_drewN w n⟩

/-- The same, the answer under a name of the caller's. -/
theorem see_at (b : Nat) (s : Int) (k : Bool) (t r : Int) (w : World) (h : IsClk w b s k) (hr : Hid (seen s k t = r)) :
    Calls Try.prog 11 #[.pointer (some ⟨b, 0, none⟩), .int .i64 t] w fun e w' => e = .returned (.int .i64 r) ∧ IsClk w' b r true ∧ Only b w w' := by
  have hr' := hr.out
  subst hr'
  exact see_any b s k t w h

theorem getD_of_lt (zs : List Int) {k : Nat} (hk : k < zs.length) : zs.getD k 0 = zs[k] := by
  simp [List.getElem?_eq_getElem hk]

theorem mem_take_next {zs : List Int} {k : Nat} (hk : k < zs.length) (r : Int) : r ∈ zs.take (k + 1) ↔ r ∈ zs.take k ∨ r = zs.getD k 0 := by
  rw [List.take_succ_eq_append_getElem hk, List.mem_append, List.mem_singleton, getD_of_lt zs hk]

/-! ### a slice of numbers that came in -/
/-- The values of the argument: nil; or a row of numbers in old memory. -/
theorem row_cells {w : World} {x : Addr} {zs : List Int} (hcell : ∀ i, i < zs.length → w.cell? (x.add i) = some (.int .i64 (zs.getD i 0))) (hne : 0 < zs.length) :
    ∃ b off, x = ⟨b, off, none⟩ ∧ b < w.heap.size ∧ ∀ i, i < zs.length → w.cell? ⟨b, off + i, none⟩ = some (.int .i64 (zs.getD i 0)) := by
  obtain ⟨b, off, spot⟩ := x
  have hc := hcell 0 hne
  have hspot : spot = none := by simpa [Addr.add] using World.cell?_spot hc
  subst hspot
  have e : ∀ i, (⟨b, off, none⟩ : Addr).add i = ⟨b, off + i, none⟩ := fun i => by unfold Addr.add; split <;> simp_all
  refine ⟨b, off, rfl, ?_, fun i hi => ?_⟩
  · have := World.block_lt_of_cell? w _ hc; simpa [e] using this
  · rw [← e]; exact hcell i hi

/-- Two new clocks, and a third block. -/
theorem start2 (w : World) : Below w.heap.size w (((w.alloc (.cells #[.int .i64 0, .bool false] 41)).alloc (.cells #[.int .i64 0, .bool false] 41)).alloc (.cells #[.int .i64 9, .bool true] 41)) ∧
    IsClk (((w.alloc (.cells #[.int .i64 0, .bool false] 41)).alloc (.cells #[.int .i64 0, .bool false] 41)).alloc (.cells #[.int .i64 9, .bool true] 41)) w.heap.size 0 false ∧
    IsClk (((w.alloc (.cells #[.int .i64 0, .bool false] 41)).alloc (.cells #[.int .i64 0, .bool false] 41)).alloc (.cells #[.int .i64 9, .bool true] 41)) (w.heap.size + 1) 0 false := by
  have b1 : Below (w.alloc (.cells #[.int .i64 0, .bool false] 41)).heap.size (w.alloc (.cells #[.int .i64 0, .bool false] 41)) ((w.alloc (.cells #[.int .i64 0, .bool false] 41)).alloc (.cells #[.int .i64 0, .bool false] 41)) := (Below.refl _ _).alloc (Nat.le_refl _) _
  have b2 : Below ((w.alloc (.cells #[.int .i64 0, .bool false] 41)).alloc (.cells #[.int .i64 0, .bool false] 41)).heap.size ((w.alloc (.cells #[.int .i64 0, .bool false] 41)).alloc (.cells #[.int .i64 0, .bool false] 41)) (((w.alloc (.cells #[.int .i64 0, .bool false] 41)).alloc (.cells #[.int .i64 0, .bool false] 41)).alloc (.cells #[.int .i64 9, .bool true] 41)) := (Below.refl _ _).alloc (Nat.le_refl _) _
  have c2 := IsClk.new (w.alloc (.cells #[.int .i64 0, .bool false] 41))
  rw [World.size_alloc] at c2
  refine ⟨(((Below.refl _ _).alloc (Nat.le_refl _) _).alloc (by simp) _).alloc (by simp; omega) _, ((IsClk.new w).below b1 (by simp)).below b2 (by simp; omega), c2.below b2 (by simp)⟩

end Go.Proofs.Ytlfmagnipmgglaa
