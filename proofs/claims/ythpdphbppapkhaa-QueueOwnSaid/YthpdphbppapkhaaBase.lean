/-
  The walks of what the queue's statements share: Same, alive, great, and what is told of slices and acts that come in. No condition.
-/
import Derived.Test.YthpdphbppapkhaaPutInt
import Derived.Deep.Slices
import Derived.Deep.Strs
namespace Go.Proofs.Ythpdphbppapkhaa
open Go.RowKit qi

theorem ret_num {k : IntKind} {a b : Int} (h : a = b) : Ending.returned (.int k a) = .returned (.int k b) := by rw [h]
theorem ret_bool {a b : Bool} (h : a = b) : Ending.returned (.bool a) = .returned (.bool b) := by rw [h]

/-- A slice of numbers in memory: the first n cells behind a are xs. -/
def Ints (w : World) (a : Option Addr) (n : Nat) (xs : List Int) : Prop :=
  xs.length = n ∧ ∀ i, i < n → ∃ b off, a = some ⟨b, off, none⟩ ∧ w.cell? ⟨b, off + i, none⟩ = some (.int .i64 (xs.getD i 0))

theorem ints_of_own {w : World} {base : Nat} {sp : Option Addr} {n sc : Nat} {xs : List Int} (h : w.ownsRow base 3 1 (.slice sp n sc) n (xs.map fun x => .int .i64 x)) : Ints w sp n xs := by
  have hl : xs.length = n := by have := h.1; simpa using this
  refine ⟨hl, fun i hi => ?_⟩
  rcases h.2 with ⟨e, hz⟩ | ⟨g, cap, cur, e, _⟩
  · omega
  · obtain ⟨rfl, _⟩ : sp = some ⟨g, 0, none⟩ ∧ sc = cap := by simpa using e
    have hc := h.cells (g := g) rfl i (.int .i64 (xs.getD i 0)) (by simp [List.getElem?_eq_getElem (show i < xs.length by omega)])
    have hadd : (⟨g, 0, none⟩ : Addr).add i = ⟨g, 0 + i, none⟩ := by unfold Addr.add; split <;> simp_all
    rw [hadd] at hc
    exact ⟨g, 0, rfl, hc⟩

set_option maxHeartbeats 1000000 in
theorem same_any (a b : Option Addr) (n m c d : Nat) (xs ys : List Int) (w : World) (hx : Ints w a n xs) (hy : Ints w b m ys) (hc : n ≤ maxLen) (hd : m ≤ maxLen) :
    Calls Try.prog 25 #[.slice a n c, .slice b m d] w fun e w' => e = .returned (.bool (decide (xs = ys))) ∧ ∃ k, w' = w.drewN k := by
  obtain ⟨hxl, hxc⟩ := hx
  obtain ⟨hyl, hyc⟩ := hy
  have HX := Lib.hid hxl
  have HY := Lib.hid hyl
  have HXC : Hid _ := hxc
  have HYC : Hid _ := hyc
  unfold maxLen at hc hd
  clear hxl hyl hxc hyc
  by_cases hnm : n = m
  · subst hnm
    go_enter Try.func25, Try.ntmps25
    go_wp2
    go_loopg [5] n (fun g v5 wr => ∃ i : Nat, i + g = n ∧ v5 = .int .i64 i ∧ Hid (xs.take i = ys.take i) ∧ Hid (∃ k, wr = w.drewN k))
    case atStart => exact ⟨0, by omega, rfl, rfl, 0, rfl⟩
    case round =>
      obtain ⟨i, hi, rfl, ht, hwk⟩ := hrel
      by_cases hlt : i < n
      · obtain ⟨b1, o1, rfl, hc1⟩ := HXC.out i hlt
        obtain ⟨b2, o2, rfl, hc2⟩ := HYC.out i hlt
        obtain ⟨k, rfl⟩ := hwk.out
        have hnx : xs.take (i + 1) = xs.take i ++ [xs.getD i 0] := by
          have := HX.out
          rw [List.take_succ_eq_append_getElem (by omega)]; simp [List.getElem?_eq_getElem (show i < xs.length by omega)]
        have hny : ys.take (i + 1) = ys.take i ++ [ys.getD i 0] := by
          have := HY.out
          rw [List.take_succ_eq_append_getElem (by omega)]; simp [List.getElem?_eq_getElem (show i < ys.length by omega)]
        obtain ⟨x, hxx⟩ : ∃ x, xs.getD i 0 = x := ⟨_, rfl⟩
        obtain ⟨y, hyy⟩ : ∃ y, ys.getD i 0 = y := ⟨_, rfl⟩
        rw [hxx] at hc1 hnx
        rw [hyy] at hc2 hny
        have HNX := Lib.hid hnx
        have HNY := Lib.hid hny
        have HXX := Lib.hid hxx
        have HYY := Lib.hid hyy
        clear hnx hny hxx hyy
        by_cases hxy : x = y
        · subst hxy
          go_wp2
          go_quiet (fail)
          go_wp2
          go_roundg (n - (i + 1))
          case measure => omega
          case rel =>
            refine ⟨i + 1, by omega, by go_num, ?_, ⟨_, rfl⟩⟩
            show _ = _
            rw [HNX.out, HNY.out, ht.out]
        · have hb : (x == y) = false := by simpa using hxy
          go_wp2
          go_quiet (fail)
          go_wp2
          go_ret
          refine ⟨ret_bool ?_, k + nq, by simp [World.drewN, Nat.add_assoc]⟩
          have hne : xs ≠ ys := fun e => hxy (by rw [← HXX.out, ← HYY.out, e])
          rw [decide_eq_false hne]
      · have hin : i = n := by omega
        subst hin
        obtain ⟨k, rfl⟩ := hwk.out
        go_wp2
        go_ret
        refine ⟨ret_bool ?_, k, rfl⟩
        have := ht.out
        rw [List.take_of_length_le (by have := HX.out; omega), List.take_of_length_le (by have := HY.out; omega)] at this
        rw [decide_eq_true this]
  · have hne : xs ≠ ys := fun e => hnm (by rw [← HX.out, ← HY.out, e])
    have hb : ((n : Int) == (m : Int)) = false := by simp; omega
    go_enter Try.func25, Try.ntmps25
    go_wp2
    go_ret
    exact ⟨ret_bool (by rw [decide_eq_false hne]), 0, rfl⟩

/-- A slice that the caller has just built, handed to Put. -/
theorem given_new {w : World} {b : Nat} {F : List Nat} {xs : List Int} {most : Nat} {ended : Bool} (h : IsQ w b F xs most ended) (ys : List Int) (n : Nat) (hn : ys.length = n) (hm : n ≤ maxLen) :
    IsQ (w.alloc (.cells (ys.map fun x => Value.int .i64 x).toArray 3)) b F xs most ended ∧ GivenIn (w.alloc (.cells (ys.map fun x => Value.int .i64 x).toArray 3)) F (some ⟨w.heap.size, 0, none⟩) n n ys := by
  refine ⟨h.below ((Below.refl _ _).alloc (Nat.le_refl _) _) (Nat.le_refl _), Nat.le_refl _, hm, hn, fun i hi => ⟨w.heap.size, 0, rfl, by simp, fun hk => by have := h.lt _ hk; omega, ?_⟩⟩
  rw [Nat.zero_add, World.cell?_alloc_new]
  simp [List.getElem?_eq_getElem (show i < ys.length by omega)]

set_option maxHeartbeats 1000000 in
theorem alive_any (w : World) : Calls Try.prog 9 #[] w fun e w' => e = .returned (.bool true) ∧ Below w.heap.size w w' := by
  go_enter Try.func9, Try.ntmps9
  go_wp2_with fail
  refine (q_new 3 (by omega) (by omega) w).mono ?_
  rintro e w1 ⟨b, rfl, hq, hbel, hb1, hb2⟩
  go_wp2_with fail
  obtain ⟨hq1, hg1⟩ := given_new hq [1, 2] 2 rfl (by decide)
  have hs1 : (w1.alloc (.cells ([1, 2].map fun x => Value.int .i64 x).toArray 3)).heap.size = w1.heap.size + 1 := by simp
  have hbel1 : Below w.heap.size w (w1.alloc (.cells ([1, 2].map fun x => Value.int .i64 x).toArray 3)) := hbel.alloc hbel.size _
  refine (q_put_at hq1 _ _ _ hg1 2 [1, 2] rfl rfl).mono ?_
  rintro e w2 ⟨rfl, F2, hq2, hk2, hs2⟩
  have hF2 : ∀ k, k ∈ F2 → w.heap.size ≤ k := fun k hk => by
    have := hbel1.size
    rcases hs2 k hk with h | h
    · have : k = b := by simpa using h
      omega
    · omega
  have hbel2 := hk2.below hbel1 (fun k hk => by rcases List.mem_singleton.1 hk with rfl; exact hb1) hbel1.size
  clear hq hbel hb2 hq1 hg1 hs1 hbel1 hk2 hs2
  go_wp2_with fail
  obtain ⟨hq3, hg3⟩ := given_new hq2 [3, 4] 2 rfl (by decide)
  have hbel3 : Below w.heap.size w (w2.alloc (.cells ([3, 4].map fun x => Value.int .i64 x).toArray 3)) := hbel2.alloc hbel2.size _
  refine (q_put_at hq3 _ _ _ hg3 1 [1, 2, 3] rfl rfl).mono ?_
  rintro e w4 ⟨rfl, F4, hq4, hk4, hs4⟩
  have hF4 : ∀ k, k ∈ F4 → w.heap.size ≤ k := fun k hk => by
    have := hbel3.size
    rcases hs4 k hk with h | h
    · exact hF2 k h
    · omega
  have hbel4 := hk4.below hbel3 hF2 hbel3.size
  clear hq2 hbel2 hF2 hq3 hg3 hbel3 hk4 hs4
  go_wp2_with fail
  refine (q_take_at hq4 2 2 [1, 2] [3] rfl rfl rfl).mono ?_
  rintro e w5 ⟨sp, sc, rfl, hown, hq5, hk5⟩
  have hbel5 := hk5.below hbel4 hF4 hbel4.size
  clear hq4 hbel4 hk5
  go_wp2_with fail
  have hx := ints_of_own (hown.alloc (.cells #[.int .i64 1, .int .i64 2] 3))
  have hy : Ints (w5.alloc (.cells #[.int .i64 1, .int .i64 2] 3)) (some ⟨w5.heap.size, 0, none⟩) 2 [1, 2] := ⟨rfl, fun i hi => ⟨_, _, rfl, by
    rw [Nat.zero_add, World.cell?_alloc_new]
    match i, hi with
    | 0, _ => rfl
    | 1, _ => rfl⟩⟩
  have hq6 : IsQ (w5.alloc (.cells #[.int .i64 1, .int .i64 2] 3)) b F4 [3] (Int.toNat 3) false := hq5.below ((Below.refl _ _).alloc (Nat.le_refl _) _) (Nat.le_refl _)
  have hbel6 : Below w.heap.size w (w5.alloc (.cells #[.int .i64 1, .int .i64 2] 3)) := hbel5.alloc hbel5.size _
  refine (same_any sp _ 2 2 sc 2 [1, 2] [1, 2] _ hx hy (by decide) (by decide)).mono ?_
  rintro e w7 ⟨rfl, k, rfl⟩
  have hq7 : IsQ ((w5.alloc (.cells #[.int .i64 1, .int .i64 2] 3)).drewN k) b F4 [3] (Int.toNat 3) false := hq6.same (fun _ _ => rfl)
  have hbel7 : Below w.heap.size w ((w5.alloc (.cells #[.int .i64 1, .int .i64 2] 3)).drewN k) := ⟨hbel6.os, hbel6.tape, hbel6.output, hbel6.size, hbel6.block⟩
  clear hown hq5 hF4 hbel5 hx hy hq6 hbel6
  rw [decide_eq_true rfl]
  go_wp2_with fail
  refine (q_room_at hq7 2 rfl).mono ?_
  rintro e w8 ⟨rfl, _, k2, rfl⟩
  go_wp2_with fail
  go_ret
  exact ⟨rfl, ⟨hbel7.os, hbel7.tape, hbel7.output, hbel7.size, hbel7.block⟩⟩

theorem Ints.cut {w : World} {a : Option Addr} {n k : Nat} {xs : List Int} (h : Ints w a n xs) (hk : k ≤ n) : Ints w a k (xs.take k) := by
  refine ⟨by have := h.1; simp; omega, fun i hi => ?_⟩
  obtain ⟨b, off, e, hc⟩ := h.2 i (by omega)
  refine ⟨b, off, e, ?_⟩
  rw [hc]
  simp [List.getD_eq_getElem?_getD, hi]

/-- The length and the capacity of what one owns. -/
theorem own_cap {w : World} {base : Nat} {E : TypeId} {sp : Option Addr} {n sc : Nat} {zs : List Value} (h : w.ownsRow base E 1 (.slice sp n sc) n zs) : n ≤ sc ∧ sc ≤ maxLen := by
  rcases h.2 with ⟨e, h0⟩ | ⟨g, cap, cur, e, _, _, h1, h2, _⟩
  · simp only [Value.slice.injEq] at e
    obtain ⟨_, rfl, rfl⟩ := e
    exact ⟨Nat.le_refl _, by simp [maxLen]⟩
  · simp only [Value.slice.injEq] at e
    obtain ⟨_, _, rfl⟩ := e
    exact ⟨h1, h2⟩

end Go.Proofs.Ythpdphbppapkhaa
