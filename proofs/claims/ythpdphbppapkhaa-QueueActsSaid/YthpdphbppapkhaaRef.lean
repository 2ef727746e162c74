/-
  The walks of the reference queue (a list of numbers): Room, Peek, Take, Put. Condition: it lies in memory as 'RefQ' says.
-/
import Derived.Test.YthpdphbppapkhaaApp
import Derived.Deep.RegionHeld3
import Derived.Deep.RegionLaw
import Derived.Deep.AppendLies
namespace Go.Proofs.Ythpdphbppapkhaa
open Go.RowKit qi

/-- Block m is a reference queue; G: its blocks. -/
def RefQ (w : World) (m : Nat) (G : List Nat) (xs : List Int) (most : Nat) (ended : Bool) : Prop :=
  ∃ v, w.heap[m]? = some (.cells #[v, .int .i64 most, .bool ended] 54 (0, 0)) ∧ G = m :: v.ownBlock.toList ∧ OwnInts w 0 v xs ∧ xs.length ≤ most ∧ most ≤ 65536

theorem RefQ.lt {w : World} {m : Nat} {G : List Nat} {xs : List Int} {most : Nat} {ended : Bool} (h : RefQ w m G xs most ended) : ∀ k, k ∈ G → k < w.heap.size := by
  obtain ⟨v, hm, rfl, ho, _⟩ := h
  intro k hk
  rcases List.mem_cons.1 hk with rfl | hk
  · exact (Array.getElem?_eq_some_iff.1 hm).1
  · exact (ho.lt k (by simpa using hk)).2

/-- A row of numbers is no reference queue's own block. -/
theorem ref_apart {w : World} {m most base : Nat} {v u : Value} {ended : Bool} {xs : List Int} (hm : w.heap[m]? = some (.cells #[v, .int .i64 most, .bool ended] 54 (0, 0))) (ho : OwnInts w base u xs) : u.ownBlock ≠ some m := by
  rcases ho.2 with ⟨rfl, _⟩ | ⟨g, cap, cur, rfl, _, hg, _⟩
  · simp [Value.ownBlock]
  · intro e
    obtain rfl : g = m := by simpa [Value.ownBlock] using e
    have := hg.symm.trans hm
    simp at this

theorem RefQ.keeps {w w' : World} {m : Nat} {G F : List Nat} {xs : List Int} {most : Nat} {ended : Bool} (h : RefQ w m G xs most ended) (hk : Keeps F w w') (hd : ∀ k, k ∈ G → k ∉ F) : RefQ w' m G xs most ended := by
  have hlt := h.lt
  obtain ⟨v, hm, rfl, ho, h1, h2⟩ := h
  exact ⟨v, (hk.block m (hlt m (by simp)) (hd m (by simp))).trans hm, rfl, own_keeps ho hk (fun k e => hd k (by simp [e])), h1, h2⟩

theorem RefQ.below {w w' : World} {m : Nat} {G : List Nat} {xs : List Int} {most : Nat} {ended : Bool} (h : RefQ w m G xs most ended) {B : Nat} (hb : Below B w w') (hB : w.heap.size ≤ B) : RefQ w' m G xs most ended :=
  h.keeps (Keeps.of_below (hb.mono hB) []) (fun _ _ hx => by cases hx)

theorem RefQ.drewN {w : World} {m : Nat} {G : List Nat} {xs : List Int} {most : Nat} {ended : Bool} (h : RefQ w m G xs most ended) (k : Nat) : RefQ (w.drewN k) m G xs most ended := h

set_option maxHeartbeats 1000000 in
theorem ref_room {w : World} {m : Nat} {G : List Nat} {xs : List Int} {most : Nat} {ended : Bool} (h : RefQ w m G xs most ended) :
    Calls Try.prog 32 #[.pointer (some ⟨m, 0, none⟩)] w fun e w' => e = .returned (.int .i64 (roomOf xs.length most ended)) ∧ ∃ k, w' = w.drewN k := by
  obtain ⟨v, hm, rfl, ho, h1, h2⟩ := h
  obtain ⟨sp, sc, rfl⟩ := ho.form
  obtain ⟨n, hn⟩ : ∃ n, xs.length = n := ⟨_, rfl⟩
  rw [hn] at h1 hm ⊢
  have c0 : w.cell? ⟨m, 0, none⟩ = some (.slice sp n sc) := cell_at hm 0
  have c1 : w.cell? ⟨m, 1, none⟩ = some (.int .i64 most) := cell_at hm 1
  have c2 : w.cell? ⟨m, 2, none⟩ = some (.bool ended) := cell_at hm 2
  have e1 : IntKind.i64.wrap ((most : Int) - (n : Int)) = (most : Int) - (n : Int) := IntWalk.i64_in _ (by omega)
  clear hm ho hn
  cases ended
  · go_enter Try.func32, Try.ntmps32
    go_wp2
    go_quiet (fail)
    go_wp2
    go_ret
    exact ⟨rfl, _, rfl⟩
  · go_enter Try.func32, Try.ntmps32
    go_wp2
    go_ret
    exact ⟨rfl, 0, rfl⟩

theorem ints_one (w : World) (x : Int) : Ints (w.alloc (.cells #[.int .i64 x] 3)) (some ⟨w.heap.size, 0, none⟩) 1 [x] :=
  ⟨rfl, fun i hi => ⟨w.heap.size, 0, rfl, by
    obtain rfl : i = 0 := by omega
    simp⟩⟩

set_option maxRecDepth 100000 in
set_option maxHeartbeats 1000000 in
theorem ref_peek {w : World} {m : Nat} {G : List Nat} {xs : List Int} {most : Nat} {ended : Bool} (h : RefQ w m G xs most ended) (nn : Int) :
    Calls Try.prog 31 #[.pointer (some ⟨m, 0, none⟩), .int .i64 nn] w fun e w' => ∃ v, e = .returned v ∧ OwnInts w' w.heap.size v (xs.take (count nn xs.length)) ∧ Below w.heap.size w w' := by
  have hmlt := h.lt m
  obtain ⟨v, hm, rfl, ho, h1, h2⟩ := h
  obtain ⟨sp, sc, rfl⟩ := ho.form
  have hx := ints_of_own ho
  have hol := ho.lt
  obtain ⟨n, hn⟩ : ∃ n, xs.length = n := ⟨_, rfl⟩
  rw [hn] at h1 hm hx hol ⊢
  obtain ⟨c, hc⟩ : ∃ c, count nn n = c := ⟨_, rfl⟩
  have hcd : c = (min nn (n : Int)).toNat := by rw [← hc]; rfl
  rw [hc]
  have hmlt := hmlt (by simp)
  have c0 : w.cell? ⟨m, 0, none⟩ = some (.slice sp n sc) := cell_at hm 0
  have HX : Hid (∀ i, i < n → ∃ b off, sp = some ⟨b, off, none⟩ ∧ w.cell? ⟨b, off + i, none⟩ = some (.int .i64 (xs.getD i 0))) := hx.2
  have HN := Lib.hid hn
  have HC := Lib.hid hcd
  clear hm ho hn hx hc hcd hol
  go_enter Try.func31, Try.ntmps31
  go_wp2
  go_loopg [5, 6] n (fun g v5 v6 wr => ∃ i : Nat, i + g = n ∧ v6 = .int .i64 i ∧ OwnInts wr w.heap.size v5 (xs.take (min i c)) ∧ Below w.heap.size w wr)
  case atStart => exact ⟨0, by omega, rfl, by rw [Nat.zero_min]; exact .nil _ _, Below.refl _ _⟩
  case round =>
    obtain ⟨i, hi, rfl, hown, hbel⟩ := hrel
    have d0 := (hbel.cell (p := ⟨m, 0, none⟩) hmlt).trans c0
    by_cases hlt : i < n
    · obtain ⟨b, off, rfl, hxi⟩ := HX.out i hlt
      have hblt := World.block_lt_of_cell? w _ hxi
      have dx := (hbel.cell (p := ⟨b, off + i, none⟩) hblt).trans hxi
      obtain ⟨x, hxx⟩ : ∃ x, xs.getD i 0 = x := ⟨_, rfl⟩
      rw [hxx] at dx
      have HXX := Lib.hid hxx
      have HOWN := Lib.hid hown
      have HBEL := Lib.hid hbel
      have hsz := hbel.size
      clear hxi hxx hown hbel
      by_cases hin : (i : Int) < nn
      · have hic : i < c := by have := HC.out; omega
        have hsum : (xs.take (min i c)).length + 1 ≤ 1000000 := by rw [List.length_take]; omega
        have HSUM := Lib.hid hsum
        clear hsum
        go_wp2_with (at_builtin; refine wpList_app rfl _ _ rfl w.heap.size _ _ [x] rfl (HOWN.out.alloc _) (some ⟨wr.heap.size, 0, none⟩) 1 1 rfl (ints_one _ _) HSUM.out (by simp; omega) ?_; intro v' w5 hown5 hgrow5 hat5)
        go_roundg (n - (i + 1))
        case measure => omega
        case rel =>
          refine ⟨i + 1, by omega, by go_num, ?_, ?_⟩
          · rw [show min (i + 1) c = min i c + 1 by omega, List.take_succ_eq_append_getElem (by have := HN.out; omega)]
            have hg : xs[min i c]'(by have := HN.out; omega) = x := by
              have := HXX.out
              simp only [List.getD_eq_getElem?_getD, List.getElem?_eq_getElem (show i < xs.length by have := HN.out; omega), Option.getD_some] at this
              simp only [show min i c = i by omega]
              exact this
            rw [hg]
            exact hown5
          · exact (HBEL.out.alloc hsz _).grown hgrow5 (by simp; omega) (fun j hj => (HOWN.out.lt j hj).1)
      · go_wp2
        go_roundg (n - (i + 1))
        case measure => omega
        case rel =>
          have := HC.out
          exact ⟨i + 1, by omega, by go_num, by rw [show min (i + 1) c = min i c by omega]; exact HOWN.out, HBEL.out⟩
    · have hin : i = n := by omega
      subst hin
      go_wp2
      go_ret
      have := HC.out
      rw [show min i c = c by omega] at hown
      exact ⟨_, rfl, hown, hbel⟩

/-- Behind a store of another row: the reference queue with it. -/
theorem RefQ.set {w : World} {m most : Nat} {v u : Value} {ended : Bool} {ys : List Int} (hm : w.heap[m]? = some (.cells #[v, .int .i64 most, .bool ended] 54 (0, 0))) (ho : OwnInts w 0 u ys) (h1 : ys.length ≤ most) (h2 : most ≤ 65536) :
    RefQ (w.setCell ⟨m, 0, none⟩ u) m (m :: u.ownBlock.toList) ys most ended := by
  refine ⟨u, heap_setCell_same w m 0 _ _ _ hm, rfl, ?_, h1, h2⟩
  refine ownsRow_setCell_other ho (fun e => ref_apart hm ho e) _

theorem own_zero {w : World} {base : Nat} {v : Value} {xs : List Int} (h : OwnInts w base v xs) : OwnInts w 0 v xs := own_lower h (Nat.zero_le _)

/-- What Take leaves: what was taken, and the rest. -/
def RefTaken (w : World) (m : Nat) (G : List Nat) (xs : List Int) (most : Nat) (ended : Bool) (c : Nat) (e : Ending) (w' : World) : Prop :=
  ∃ v, e = .returned v ∧ OwnInts w' w.heap.size v (xs.take c) ∧ ∃ G', RefQ w' m G' (xs.drop c) most ended ∧ Keeps G w w' ∧ (∀ k, k ∈ G' → k ∈ G ∨ w.heap.size ≤ k)

theorem ref_taken {w w1 wr : World} {m most c : Nat} {G : List Nat} {vq v u : Value} {ended : Bool} {xs : List Int} (hm : w.heap[m]? = some (.cells #[vq, .int .i64 most, .bool ended] 54 (0, 0))) (hml : m < w.heap.size) (hG : m ∈ G) (h1 : xs.length ≤ most) (h2 : most ≤ 65536)
    (hv : OwnInts w1 w.heap.size v (xs.take c)) (hb1 : Below w.heap.size w w1) (hu : OwnInts wr w1.heap.size u (xs.drop c)) (hbr : Below w1.heap.size w1 wr) :
    RefTaken w m G xs most ended c (.returned v) (wr.setCell ⟨m, 0, none⟩ u) := by
  have hbw : Below w.heap.size w wr := hb1.trans (hbr.mono hb1.size)
  have hmr : wr.heap[m]? = some (.cells #[vq, .int .i64 most, .bool ended] 54 (0, 0)) := (hbw.block m hml).trans hm
  refine ⟨v, rfl, ownsRow_setCell_below (own_below hv hbr (Nat.le_refl _)) hml _, _, RefQ.set hmr (own_zero hu) (by rw [List.length_drop]; omega) h2, ?_, fun k hk => ?_⟩
  · exact ⟨hbw.os, hbw.tape, hbw.output, Nat.le_trans hbw.size (by simp), fun k hk hn => (heap_setCell_other _ _ _ _ (fun e => hn (by rw [e]; exact hG))).trans (hbw.block k hk)⟩
  · rcases List.mem_cons.1 hk with rfl | hk
    · exact .inl hG
    · have := (hu.lt k (by simpa using hk)).1
      exact .inr (Nat.le_trans hb1.size this)

set_option maxRecDepth 100000 in
set_option maxHeartbeats 1000000 in
theorem ref_take {w : World} {m : Nat} {G : List Nat} {xs : List Int} {most : Nat} {ended : Bool} (h : RefQ w m G xs most ended) (nn : Int) :
    Calls Try.prog 30 #[.pointer (some ⟨m, 0, none⟩), .int .i64 nn] w (RefTaken w m G xs most ended (count nn xs.length)) := by
  have hmltG := h.lt m
  have HP : Hid _ := ref_peek h nn
  obtain ⟨vq, hm, rfl, ho, h1, h2⟩ := h
  have hmlt := hmltG (by simp)
  clear hmltG
  obtain ⟨sp, sc, rfl⟩ := ho.form
  have hx := ints_of_own ho
  obtain ⟨n, hn⟩ : ∃ n, xs.length = n := ⟨_, rfl⟩
  obtain ⟨c, hc⟩ : ∃ c, count nn xs.length = c := ⟨_, rfl⟩
  have hcn : c ≤ n := by rw [← hc, ← hn]; exact count_le _ _
  rw [hc] at HP ⊢
  have HT : Hid (∀ (w1 wr : World) (v u : Value), OwnInts w1 w.heap.size v (xs.take c) → Below w.heap.size w w1 → OwnInts wr w1.heap.size u (xs.drop c) → Below w1.heap.size w1 wr → RefTaken w m (m :: (Value.slice sp xs.length sc).ownBlock.toList) xs most ended c (.returned v) (wr.setCell ⟨m, 0, none⟩ u)) :=
    fun w1 wr v u a b c d => ref_taken hm hmlt (by simp) h1 h2 a b c d
  rw [hn] at h1 hm hx
  have c0 : w.cell? ⟨m, 0, none⟩ = some (.slice sp n sc) := cell_at hm 0
  have f0 : w.frozen? ⟨m, 0, none⟩ = false := frozen_of_row _ _ _ _ _ hm
  have HX : Hid (∀ i, i < n → ∃ b off, sp = some ⟨b, off, none⟩ ∧ w.cell? ⟨b, off + i, none⟩ = some (.int .i64 (xs.getD i 0))) := hx.2
  have HN := Lib.hid hn
  clear hm ho hn hx hc
  go_enter Try.func30, Try.ntmps30
  go_wp2_with fail
  refine Calls.mono HP.out ?_
  rintro e w1 ⟨v, rfl, hv, hb1⟩
  obtain ⟨sp1, sc1, hvf⟩ := hv.form
  have hlc : (xs.take c).length = c := by rw [List.length_take]; have := HN.out; omega
  rw [hlc] at hvf
  subst hvf
  have HV := Lib.hid hv
  have HB1 := Lib.hid hb1
  have hsz1 := hb1.size
  have k0 := (hb1.cell (p := ⟨m, 0, none⟩) hmlt).trans c0
  have kf := (hb1.frozen (p := ⟨m, 0, none⟩) hmlt).trans f0
  have hm1 : m < w1.heap.size := by omega
  clear HP hv hlc hb1 c0 f0
  go_wp2_with fail
  go_loopg [6, 7] (n - c) (fun g v6 v7 wr => ∃ i : Nat, i + g = n ∧ c ≤ i ∧ v7 = .int .i64 i ∧ OwnInts wr w1.heap.size v6 ((xs.take i).drop c) ∧ Below w1.heap.size w1 wr)
  case atStart => exact ⟨c, by omega, Nat.le_refl _, rfl, by rw [List.drop_eq_nil_of_le (by rw [List.length_take]; omega)]; exact .nil _ _, Below.refl _ _⟩
  case round =>
    obtain ⟨i, hi, hci, rfl, hown, hbel⟩ := hrel
    have d0 := (hbel.cell (p := ⟨m, 0, none⟩) hm1).trans k0
    have df := (hbel.frozen (p := ⟨m, 0, none⟩) hm1).trans kf
    by_cases hlt : i < n
    · obtain ⟨b, off, rfl, hxi⟩ := HX.out i hlt
      have hblt := World.block_lt_of_cell? w _ hxi
      have dx := (hbel.cell (p := ⟨b, off + i, none⟩) (Nat.lt_of_lt_of_le hblt hsz1)).trans ((HB1.out.cell (p := ⟨b, off + i, none⟩) hblt).trans hxi)
      obtain ⟨x, hxx⟩ : ∃ x, xs.getD i 0 = x := ⟨_, rfl⟩
      rw [hxx] at dx
      have HXX := Lib.hid hxx
      have HOWN := Lib.hid hown
      have HBEL := Lib.hid hbel
      have hsz := hbel.size
      have hsum : ((xs.take i).drop c).length + 1 ≤ 1000000 := by rw [List.length_drop, List.length_take]; omega
      have HSUM := Lib.hid hsum
      clear hxi hxx hown hbel hsum
      go_wp2_with (at_builtin; refine wpList_app rfl _ _ rfl w1.heap.size _ _ [x] rfl (HOWN.out.alloc _) (some ⟨wr.heap.size, 0, none⟩) 1 1 rfl (ints_one _ _) HSUM.out (by simp; omega) ?_; intro v' w5 hown5 hgrow5 hat5)
      go_roundg (n - (i + 1))
      case measure => omega
      case rel =>
        refine ⟨i + 1, by omega, by omega, by go_num, ?_, ?_⟩
        · have hil : i < xs.length := by have := HN.out; omega
          have hg : xs[i] = x := by
            have := HXX.out
            simpa only [List.getD_eq_getElem?_getD, List.getElem?_eq_getElem hil, Option.getD_some] using this
          rw [List.take_succ_eq_append_getElem hil, List.drop_append_of_le_length (by rw [List.length_take]; omega), hg]
          exact hown5
        · exact (HBEL.out.alloc hsz _).grown hgrow5 (by simp; omega) (fun j hj => (HOWN.out.lt j hj).1)
    · have hin : i = n := by omega
      subst hin
      rw [List.take_of_length_le (by have := HN.out; omega)] at hown
      have HOWN := Lib.hid hown
      have HBEL := Lib.hid hbel
      clear hown hbel
      obtain ⟨sp6, sc6, hf⟩ := HOWN.out.form
      obtain ⟨d, hd⟩ : ∃ d, (xs.drop c).length = d := ⟨_, rfl⟩
      rw [hd] at hf
      clear hd
      subst hf
      go_wp2
      go_ret
      exact HT.out _ _ _ _ HV.out HB1.out HOWN.out HBEL.out

end Go.Proofs.Ythpdphbppapkhaa
