/-
  The walks of All (what waits, to be ranged over), of slices.Values's closure and of the statements' 'all', which collects. Condition: the queue lies in memory as 'IsQ' says, or is nil.
-/
import Derived.Test.YthpdphbppapkhaaBase
import Derived.RangeFuncBox
import Derived.RangeFuncNested
import Derived.RangeFuncBound
import Derived.RangeFuncCalls
import Derived.RangeFuncLeaves
import Derived.Shelf.Abstract
import Derived.Shelf.RegionOpen
import Derived.OwnWalkIn
import Derived.TacticsInMore
import Derived.LoopNIn
import Derived.LoopIn
import Derived.Maps.AppendAt
namespace Go.Proofs.Ythpdphbppapkhaa
open Go.RowKit Go.Shelf qi

attribute [local go_sem] Oper.semAt_some

/-- Block g is as it was. -/
def AtB (g : Nat) (W W' : World) : Prop := W'.heap[g]? = W.heap[g]?

theorem AtB.trans {g : Nat} {A B C : World} (h : AtB g A B) (k : AtB g B C) : AtB g A C := Eq.trans k h

def upto {α : Type} (f : Nat → α) (k : Nat) : List α := (List.range k).map f
theorem upto_succ {α : Type} (f : Nat → α) (k : Nat) : upto f (k + 1) = upto f k ++ [f k] := by simp [upto, List.range_succ]
theorem upto_length {α : Type} (f : Nat → α) (k : Nat) : (upto f k).length = k := by simp [upto]
theorem upto_all (zs : List Int) : upto (fun j => zs[j]?.getD 0) zs.length = zs := by
  apply List.ext_getElem
  · simp [upto]
  · intro i h1 h2
    simp [upto, h2]
theorem upto_take (zs : List Int) {k : Nat} (hk : k ≤ zs.length) : upto (fun j => zs[j]?.getD 0) k = zs.take k := by
  apply List.ext_getElem
  · simp [upto, hk]
  · intro i h1 h2
    have : i < zs.length := by simp [upto] at h1; omega
    simp [upto, this]

set_option maxRecDepth 100000 in
set_option maxHeartbeats 2000000 in
/-- The closure of slices.Values, for every body that leaves the slice's block alone. -/
theorem values1_in (F : Fence) (n : Nat) (h38 : F.fn 38) (hro : F.round = none) (hn : 1 ≤ n) (l Bs b off len cap : Nat) (zs : List Int) (hreach : len ≤ 140737488351232) (J Jx : List Int → World → Prop)
    (hY : ∀ pre x W, J pre W → pre.length < len → YieldAt F (n - 1) Try.prog l #[.int .i64 x] W fun e W' =>
      (e = .returned (.bool true) ∧ J (pre ++ [x]) W' ∧ AtB b W W') ∨ (e = .returned (.bool false) ∧ Jx (pre ++ [x]) W'))
    (W : World) (hBs : W.cell? ⟨Bs, 0, none⟩ = some (.slice (some ⟨b, off, none⟩) len cap)) (hc : ∀ j, j < len → W.cell? ⟨b, off + j, none⟩ = some (.int .i64 (zs[j]?.getD 0))) (h0 : J [] W) :
    CallsIn F n Try.prog 38 #[.func (.yield l) #[] #[], .pointer (some ⟨Bs, 0, none⟩)] W fun e W' => (∃ v, e = .returned v) ∧
      ((∃ ys, ys = upto (fun j => zs[j]?.getD 0) len ∧ J ys W') ∨ (∃ pre, (∃ k, k ≤ len ∧ pre = upto (fun j => zs[j]?.getD 0) k) ∧ Jx pre W')) := by
  refine callsIn_of_wp Try.func38 rfl h38 ?_ hro
  simp only [Try.ntmps38, List.size_toArray, List.length_cons, List.length_nil, Nat.reduceAdd, Nat.reduceSub, Array.replicate_succ, Array.replicate_zero, List.push_toArray, List.append_toArray, List.nil_append, List.cons_append]
  gi_wp2
  gi_loopw [7] (fun i wr => ∃ k : Nat, k ≤ len ∧ i = .int .i64 k ∧ J (upto (fun j => zs[j]?.getD 0) k) wr ∧ AtB b W wr)
    (fun i _ => len - (intOf i).toNat)
  case atStart => exact ⟨0, Nat.zero_le _, rfl, h0, rfl⟩
  case round =>
    obtain ⟨k, hk, rfl, hJs, hnx⟩ := hrel
    have hcx : k < len → wr.cell? ⟨b, off + k, none⟩ = some (.int .i64 (zs[k]?.getD 0)) := fun h => (World.cell?_of_block (a := ⟨b, off + k, none⟩) hnx).trans (hc k h)
    by_cases hlt : k < len
    · obtain ⟨fn, tmps, assign, body, hy, hR⟩ := hY _ (zs[k]?.getD 0) wr hJs (by rw [upto_length]; exact hlt)
      have hcx' := hcx hlt
      gi_wp2
      refine hR.mono ?_
      rintro e W3 (⟨rfl, hJ3, hk3⟩ | ⟨rfl, hJx3⟩)
      · gi_wp2
        go_roundw
        case rel => exact ⟨k + 1, by omega, by simp, by rw [upto_succ]; exact hJ3, hnx.trans hk3⟩
        case measure => simp [intOf]; omega
      · gi_wp2
        refine bodyPost_ret (results_none rfl _ _ _) rfl ?_
        exact ⟨⟨_, rfl⟩, .inr ⟨_, ⟨k + 1, by omega, (upto_succ _ _).symm⟩, hJx3⟩⟩
    · obtain rfl : k = len := by omega
      gi_wp2
      go_end0
      exact ⟨⟨_, rfl⟩, .inl ⟨_, rfl, hJs⟩⟩

set_option maxRecDepth 100000 in
set_option maxHeartbeats 1000000 in
theorem values1_nil_in (F : Fence) (n : Nat) (h38 : F.fn 38) (hro : F.round = none) (l Bs : Nat) (J : List Int → World → Prop) (W : World) (hBs : W.cell? ⟨Bs, 0, none⟩ = some (.slice none 0 0)) (h0 : J [] W) :
    CallsIn F n Try.prog 38 #[.func (.yield l) #[] #[], .pointer (some ⟨Bs, 0, none⟩)] W fun e W' => (∃ v, e = .returned v) ∧ J [] W' := by
  refine callsIn_of_wp Try.func38 rfl h38 ?_ hro
  simp only [Try.ntmps38, List.size_toArray, List.length_cons, List.length_nil, Nat.reduceAdd, Nat.reduceSub, Array.replicate_succ, Array.replicate_zero, List.push_toArray, List.append_toArray, List.nil_append, List.cons_append]
  gi_wp2
  gi_loopw [7] (fun i wr => i = .int .i64 0 ∧ J [] wr) (fun _ _ => 0)
  case atStart => exact ⟨rfl, h0⟩
  case round =>
    obtain ⟨rfl, hJs⟩ := hrel
    gi_wp2
    go_end0
    exact ⟨⟨_, rfl⟩, hJs⟩

/-- The block of a slice value; none's is d. -/
def rowOf (d : Nat) (v : Value) : Nat := v.ownBlock.getD d

/-- What All hands back may be ranged over: all of zs, in order. -/
theorem values_stops (F : Fence) (n : Nat) (h38 : F.fn 38) (hro : F.round = none) (hn : 1 ≤ n) (Bs base sc : Nat) (sp : Option Addr) (zs : List Int) (hreach : zs.length ≤ 140737488351232) (w : World) (hBs : Bs < w.heap.size)
    (hc : w.cell? ⟨Bs, 0, none⟩ = some (.slice sp zs.length sc)) (hI : w.ownsRow base 3 1 (.slice sp zs.length sc) zs.length (zs.map fun x => .int .i64 x)) :
    SeqStopsK F n Try.prog 38 #[.pointer (some ⟨Bs, 0, none⟩)] (fun x : Int => #[Value.int .i64 x]) (AtB (rowOf Bs (.slice sp zs.length sc))) (fun ys => ys = zs) (fun pre => pre <+: zs) zs.length w := fun l J Jx W hW _ _ hY h0 => by
  have hc' := (hW.cell (p := ⟨Bs, 0, none⟩) hBs).trans hc
  have hI' := own_below hI hW (Nat.le_refl _)
  rcases hI'.2 with ⟨e, hz⟩ | ⟨g, cap, cur, e, _⟩
  · obtain rfl : zs = [] := List.eq_nil_of_length_eq_zero hz
    rw [e] at hc'
    exact (values1_nil_in F n h38 hro l Bs J W hc' h0).mono fun e W' ⟨he, hj⟩ => ⟨he, .inl ⟨_, rfl, hj⟩⟩
  · obtain ⟨rfl, rfl⟩ : sp = some ⟨g, 0, none⟩ ∧ sc = cap := by simpa using e
    have hcs : ∀ j, j < zs.length → W.cell? ⟨g, 0 + j, none⟩ = some (.int .i64 (zs[j]?.getD 0)) := fun j hj => by
      obtain ⟨b, off, e2, h2⟩ := (ints_of_own hI').2 j hj
      obtain ⟨rfl, rfl⟩ : g = b ∧ 0 = off := by simpa using e2
      simpa using h2
    refine (values1_in F n h38 hro hn l Bs g 0 zs.length sc zs hreach J Jx hY W hc' hcs h0).mono ?_
    rintro e W' ⟨he, ⟨ys, rfl, hj⟩ | ⟨pre, ⟨k, hk, rfl⟩, hj⟩⟩
    · exact ⟨he, .inl ⟨_, upto_all zs, hj⟩⟩
    · exact ⟨he, .inr ⟨_, by rw [upto_take zs hk]; exact List.take_prefix _ _, hj⟩⟩

/-- What All hands back. -/
def AllPost (w : World) (zs : List Int) (e : Ending) (w' : World) : Prop :=
  ∃ bx sp sc, e = .returned (.func (.func 38) #[] #[.pointer (some ⟨bx, 0, none⟩)]) ∧ w'.cell? ⟨bx, 0, none⟩ = some (.slice sp zs.length sc) ∧ w'.ownsRow w.heap.size 3 1 (.slice sp zs.length sc) zs.length (zs.map fun x => .int .i64 x) ∧ Below w.heap.size w w' ∧ w.heap.size ≤ bx

theorem all_of (p : Value) (n : Nat) (zs : List Int) (hn : zs.length = n) (w : World)
    (hlen : Calls Try.prog 20 #[p] w fun e w' => e = .returned (.int .i64 n) ∧ w = w')
    (hpk : Calls Try.prog 24 #[p, .int .i64 n] w fun e w' => ∃ sp sc, e = .returned (.slice sp n sc) ∧ w'.ownsRow w.heap.size 3 1 (.slice sp n sc) n (zs.map fun x => .int .i64 x) ∧ Below w.heap.size w w') :
    Calls Try.prog 28 #[p] w (AllPost w zs) := by
  have HL : Hid _ := hlen
  have HP : Hid _ := hpk
  subst hn
  clear hlen hpk
  go_enter Try.func28, Try.ntmps28
  go_wp2_with fail
  refine Calls.mono HL.out ?_
  rintro e w' ⟨rfl, rfl⟩
  go_wp2_with fail
  refine Calls.mono HP.out ?_
  rintro e w1 ⟨sp, sc, rfl, hown, hbel⟩
  clear HL HP
  go_wp2
  go_ret
  exact ⟨w1.heap.size, sp, sc, rfl, by simp, hown.alloc _, hbel.alloc hbel.size _, hbel.size⟩

theorem all_q {w : World} {b : Nat} {F : List Nat} {xs : List Int} {most : Nat} {ended : Bool} (h : IsQ w b F xs most ended) : Calls Try.prog 28 #[.pointer (some ⟨b, 0, none⟩)] w (AllPost w xs) := by
  refine all_of _ xs.length xs rfl w (q_len h) ?_
  have hcnt : count xs.length xs.length = xs.length := by unfold count; omega
  refine (q_peek_at h xs.length xs.length xs hcnt List.take_length).mono ?_
  rintro e w' ⟨sp, sc, rfl, hown, _, hbel⟩
  exact ⟨sp, sc, rfl, hown, hbel⟩

theorem all_none (w : World) : Calls Try.prog 28 #[.pointer none] w (AllPost w []) := by
  refine all_of _ 0 [] rfl w (len_nil w) ?_
  refine (peek_nil 0 w).mono ?_
  rintro e w' ⟨rfl, rfl⟩
  exact ⟨none, 0, rfl, World.ownsRow_nil _ _ _ _, Below.refl _ _⟩

/-- What 'all' hands back: all of zs, in a slice of its own. -/
def CollPost (w : World) (zs : List Int) (e : Ending) (w' : World) : Prop :=
  ∃ sp sc, e = .returned (.slice sp zs.length sc) ∧ w'.ownsRow w.heap.size 3 1 (.slice sp zs.length sc) zs.length (zs.map fun x => .int .i64 x) ∧ Below w.heap.size w w' ∧ w.heap.size ≤ w'.heap.size

theorem rowOf_lt {W : World} {base d : Nat} {v : Value} {k : Nat} {xs : List Value} (h : W.ownsRow base 3 1 v k xs) (h0 : d < W.heap.size) : rowOf d v < W.heap.size := by
  rcases h.2 with ⟨rfl, _⟩ | ⟨g, cap, cur, rfl, _, hgb, _⟩
  · simpa [rowOf, Value.ownBlock] using h0
  · have := (Array.getElem?_eq_some_iff.1 hgb).1
    simpa [rowOf, Value.ownBlock] using this

theorem rowOf_ge {W : World} {base d : Nat} {v : Value} {k : Nat} {xs : List Value} (h : W.ownsRow base 3 1 v k xs) (h0 : base ≤ d) : base ≤ rowOf d v := by
  rcases h.2 with ⟨rfl, _⟩ | ⟨g, cap, cur, rfl, hb, hgb, _⟩
  · simpa [rowOf, Value.ownBlock] using h0
  · simpa [rowOf, Value.ownBlock] using hb

theorem own_lower {W : World} {base base' : Nat} {v : Value} {k : Nat} {xs : List Value} (h : W.ownsRow base 3 1 v k xs) (hb : base' ≤ base) : W.ownsRow base' 3 1 v k xs := by
  refine ⟨h.1, ?_⟩
  rcases h.2 with ⟨e, hz⟩ | ⟨g, cap, cur, e, hge, rest⟩
  · exact .inl ⟨e, hz⟩
  · exact .inr ⟨g, cap, cur, e, Nat.le_trans hb hge, rest⟩

/-- An append to a row from base on, then a store into box B: block g below base is as it was. -/
theorem atB_append {W w1 : World} {base B g k : Nat} {v v' : Value} {xs : List Value} {tmp : Obj} (hrow : W.ownsRow base 3 1 v k xs) (hgrow : (W.alloc tmp).grownBy w1 v.ownBlock) (hg : g < base) (hW : base ≤ W.heap.size) (hne : g ≠ B) : AtB g W (w1.setCell ⟨B, 0, none⟩ v') := by
  have h1 : (W.alloc tmp).heap[g]? = W.heap[g]? := Below.heap_alloc _ _ _ (by omega)
  have h2 : w1.heap[g]? = (W.alloc tmp).heap[g]? := by
    refine hgrow.block g (by simp; omega) fun e => ?_
    rcases hrow.2 with ⟨rfl, _⟩ | ⟨g', cap, cur, rfl, hge, _⟩
    · simp [Value.ownBlock] at e
    · obtain rfl : g = g' := by simpa [Value.ownBlock] using e
      omega
  have h3 : (w1.setCell ⟨B, 0, none⟩ v').heap[g]? = w1.heap[g]? := Below.heap_setCell _ _ _ _ hne
  exact (h3.trans h2).trans h1

theorem atB_b {g : Nat} {w : World} (hn : g < w.heap.size) (W : World) (l : Nat) (o o' : Obj) (hl : w.heap.size ≤ l) (_ : W.heap[l]? = some o) (_ : o.isCells = false) (_ : o.isWalk = false) : AtB g W (W.putObj l o') :=
  World.putObj_heap_other (by omega)

theorem sizeFrom (m B : Nat) : OwnFrom (β := List Int) B (fun _ W => m ≤ W.heap.size) := fun _ _ _ _ hs hg _ => Nat.le_trans hs hg.size

set_option maxRecDepth 100000 in
set_option maxHeartbeats 4000000 in
theorem all_post (p : Value) (zs : List Int) (w : World) (hmax : zs.length ≤ 65536) (hall : ∀ W, Below w.heap.size w W → Calls Try.prog 28 #[p] W (AllPost W zs)) :
    Calls Try.prog 27 #[p] w (CollPost w zs) := by
  obtain ⟨i0, hi, hz0, hz1, hz2⟩ := info_parts info
  have HA : Hid _ := hall
  clear hall
  refine (callsIn_wide (n := 3)).1 ?_
  refine callsIn_of_wp_marks Try.func27 rfl trivial ?_ rfl
  simp only [Try.ntmps27, List.size_toArray, List.length_cons, List.length_nil, Nat.reduceAdd, Nat.reduceSub, Array.replicate_succ, Array.replicate_zero, List.push_toArray, List.append_toArray, List.nil_append, List.cons_append]
  have bO := Boxed.new w 35 (.slice none 0 0)
  have hA0 : Below w.heap.size w (w.alloc (.cells #[.slice none 0 0] 35)) := (Below.refl _ w).alloc (Nat.le_refl _) _
  gi_wp2_with fail
  refine ⟨trivial, ?_⟩
  refine (callsIn_wide.2 (HA.out _ hA0)).mono ?_
  rintro e W0 ⟨bx, sp, sc, rfl, hbx, hrow0, hb0, hge⟩
  gi_wp2
  have hsz : (w.alloc (.cells #[.slice none 0 0] 35)).heap.size = w.heap.size + 1 := by simp
  have hbxl : bx < W0.heap.size := World.block_lt_of_cell? W0 _ hbx
  have hz := hb0.size
  rw [hsz] at hz hge
  have hI0 : Boxed W0 w.heap.size 35 (.slice none 0 0) := (hb0.block _ (by omega)).trans bO
  obtain ⟨g, hgv⟩ : ∃ g, rowOf bx (.slice sp zs.length sc) = g := ⟨_, rfl⟩
  have hg : g < W0.heap.size := by rw [← hgv]; exact rowOf_lt hrow0 hbxl
  have hgB : g ≠ w.heap.size := by
    have := rowOf_ge hrow0 (d := bx) (by omega)
    rw [hgv] at this
    omega
  refine wpIn_rangeFunc_ownG rfl (by decide) (gf := 38) (lb := #[.pointer (some ⟨bx, 0, none⟩)]) rfl trivial (enters_of Try.func38 (by kernel_rfl) rfl)
    (values_stops .wide 2 trivial rfl (by decide) bx _ sc sp zs (by omega) W0 hbxl hbx hrow0) (fun h k => h.trans k) (atB_b (by rw [hgv]; exact hg)) (Below.refl _ _) (fun _ => rfl)
    (fun pre W => ((∃ v, Boxed W w.heap.size 35 v ∧ W.ownsRow W0.heap.size 3 1 v pre.length (pre.map (Value.int .i64)) ∧ True) ∧ Below w.heap.size w W) ∧ W0.heap.size ≤ W.heap.size)
    (fun _ _ _ => False)
    (((holdsRow_own W0.heap.size w.heap.size 35 3 1 (fun pre : List Int => pre.length) (fun pre => pre.map (Value.int .i64)) (fun _ _ => True)).from _ |>.and (ownFrom_below (Nat.le_refl _) (by omega))) |>.and (sizeFrom _ _))
    (fun _ _ _ _ _ hs _ _ => hs)
    ⟨⟨⟨_, hI0, World.ownsRow_nil _ _ _ _, trivial⟩, hA0.trans (hb0.mono (by omega))⟩, Nat.le_refl _⟩
    (fun x => { tmps := #[p, undef, .slice none 0 0, .pointer (some ⟨w.heap.size, 0, none⟩), .int .i64 x, p, .func (.func 38) #[] #[.pointer (some ⟨bx, 0, none⟩)], .int .i64 x, undef, undef, undef, undef, undef], defers := [] }) ?assign ?body ?done ?stop
  case assign =>
    intro l x W K hK
    gi_wp2
    exact hK
  case body =>
    rintro l pre x W ⟨⟨⟨v, hv, hrow, _⟩, hB⟩, hsW⟩ hlt
    have hc := hv.cell
    have hB1 := hB.size
    gi_wp2_with (gi_at_builtin; refine wpListIn_append_own _ rfl _ _ 35 rfl W0.heap.size 3 i0 (.int .i64 0) 1 8 Try.underlying35 hi hz0 hz1 hz2 rfl (by decide) _ _ _ rfl (hrow.alloc _) ⟨W.heap.size, 0, none⟩ 1 1 [.int .i64 x] rfl rfl (cell_one_new _ _ _) (by simp [Value.oneCell']) (by unfold maxLen; omega) (by omega) (by simp; omega) ?_; intro v' w1 hown' hgrow _; obtain ⟨g', cap', rfl⟩ := ownsRow_succ hown'; obtain ⟨hv1, hv2, hr2, hk2, hb2⟩ := hv.appended (n₀ := w.heap.size) (by decide) (own_lower (base' := w.heap.size) hrow (by omega)) hB1 (Nat.le_refl _) (own_lower (base' := w.heap.size) hown' (by omega)) hgrow; have hc1 := hv1.cell; have hf1 := hv1.frozen)
    exact ⟨hk2.from _, atB_append hrow hgrow (by rw [hgv]; exact hg) hsW (by rw [hgv]; exact hgB), ⟨⟨_, hv2, by simpa using ownsRow_setCell_below hown' (a := ⟨w.heap.size, 0, none⟩) (by show w.heap.size < _; omega) _, trivial⟩, hB.trans hb2⟩, Nat.le_trans hsW hb2.size⟩
  case done =>
    rintro D ys W hD rfl ⟨⟨⟨v, hv, hrow, _⟩, hB⟩, hsW⟩ hK
    have hc := hv.cell
    gi_wp2
    refine ⟨by simp, .inl ⟨_, _, rfl, run_takeDeferred hK, ?_⟩⟩
    obtain ⟨sp', sc', rfl⟩ := own_form hrow
    exact ⟨_, results_tmp rfl _ _ _, sp', sc', rfl, ownsRow_putObj (own_lower hrow (by omega)) _ hK rfl, hB.trans (belowK_b (w := w) (Nat.le_refl _) W D _ _ (by omega) hK rfl rfl), by have := hB.size; simpa using this⟩
  case stop =>
    rintro D c pre W _ _ h _
    exact h.elim

theorem coll_q {w : World} {b : Nat} {F : List Nat} {xs : List Int} {most : Nat} {ended : Bool} (h : IsQ w b F xs most ended) : Calls Try.prog 27 #[.pointer (some ⟨b, 0, none⟩)] w (CollPost w xs) :=
  all_post _ xs w (by have := h.room; omega) fun _ hW => all_q (h.below hW (Nat.le_refl _))

theorem coll_none (w : World) : Calls Try.prog 27 #[.pointer none] w (CollPost w []) :=
  all_post _ [] w (by simp) fun W _ => all_none W

end Go.Proofs.Ythpdphbppapkhaa
