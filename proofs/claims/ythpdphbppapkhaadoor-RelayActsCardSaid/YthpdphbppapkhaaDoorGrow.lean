/-
  The walk of a queue's grow: behind it there is a place more in the ring, and what waits is as it was. Condition: the queue lies in memory as 'IsQ' says, and there is room.
-/
import Derived.Test.YthpdphbppapkhaaDoorQueue
namespace Go.Proofs.YthpdphbppapkhaaDoor.qb
open Go.RowKit

theorem grow_no (b n L : Nat) (a : Option Addr) (hn : n < L) (w : World) (h0 : w.cell? ⟨b, 0, none⟩ = some (.slice a L L)) (h2 : w.cell? ⟨b, 2, none⟩ = some (.int .i64 n)) :
    Calls Tryd.prog 59 #[.pointer (some ⟨b, 0, none⟩)] w fun e w' => e = .returned (.tuple #[]) ∧ ∃ k, w' = w.drewN k := by
  go_enter Tryd.func59, Tryd.ntmps59
  go_wp2
  go_quiet (fail)
  go_wp2
  refine bodyPost_ret (results_none rfl _ _ _) rfl ?_
  exact ⟨rfl, _, rfl⟩

/-- How long the ring is made. -/
def longer (L most : Nat) : Nat := min most (max 8 (2 * L))

theorem longer_lt {L most n : Nat} (h : n < most) (h' : n ≤ L) : n < longer L most := by unfold longer; omega
theorem longer_le (L most : Nat) : longer L most ≤ most := by unfold longer; omega

theorem run_make_at (m : Nat) (hm : m ≤ 65536) (C : Int) (hC : C = m) (w : World) : (Instr.makeSlice 22 (.int .i64 C) (.int .i64 C)).run Tryd.prog w = .ok (.slice (some ⟨w.heap.size, 0, none⟩) m m) (w.alloc (.cells (madeCells #[(.int .u8 0)] m) 5)) := by
  subst hC
  obtain ⟨i0, hi0, hz0, hz1, hz2⟩ := info_parts info
  have h := run_make (P := Tryd.prog) w 22 5 i0 (.int .u8 0) Tryd.underlying22 hi0 hz0 .i64 .i64 m m (by omega) (Int.le_refl _) (by rw [hz2]; omega) (by omega)
  rw [hz1, Int.toNat_natCast, Nat.mul_one] at h
  exact h

theorem cinfo : (Tryd.prog.info? 5).map (·.size) = some 1 := by kernel_rfl

theorem ne_block {a b : Addr} (h : a.block ≠ b.block) : a ≠ b := fun e => h (by rw [e])

/-- The new ring: the things in front, room behind. -/
theorem ring_at (xs : List Int) (m : Nat) (hm : xs.length ≤ m) (z : Value) (i : Nat) (hi : i < xs.length) :
    (splice (madeCells #[z] m).toList 0 (xs.map fun x => (Value.int .u8 (x)))).toArray[(0 + i) % m]? = some ((Value.int .u8 (xs.getD i 0))) := by
  have e : (0 + i) % m = i := by rw [Nat.zero_add]; exact Nat.mod_eq_of_lt (by omega)
  rw [e]
  unfold splice
  simp only [List.take_zero, List.nil_append, List.getElem?_toArray]
  rw [List.getElem?_append_left (by simpa using hi)]
  simp [List.getElem?_eq_getElem hi]

theorem ring_size (xs : List Int) (m : Nat) (hm : xs.length ≤ m) (z : Value) : (splice (madeCells #[z] m).toList 0 (xs.map fun x => (Value.int .u8 (x)))).toArray.size = m := by
  have := length_splice (madeCells #[z] m).toList 0 (xs.map fun x => (Value.int .u8 (x))) (by simp [size_madeCells]; omega)
  simpa [size_madeCells] using this

/-- The queue's block and its new ring. -/
def Longer (b n most : Nat) (ended : Bool) (xs : List Int) (w w' : World) : Prop :=
  ∃ r m ring, n < m ∧ m ≤ most ∧ w.heap.size ≤ r ∧
      w'.heap[b]? = some (.cells #[.slice (some ⟨r, 0, none⟩) m m, .int .i64 0, .int .i64 n, .int .i64 most, .bool ended] 104 (0, 0)) ∧
      w'.heap[r]? = some (.cells ring 5 (0, 0)) ∧ ring.size = m ∧ (∀ i, i < xs.length → ring[(0 + i) % m]? = some ((Value.int .u8 (xs.getD i 0)))) ∧ Keeps [b] w w'

theorem oneCells (xs : List Int) : ∀ v ∈ xs.map (fun x => (Value.int .u8 (x))), v.oneCell' = true := by
  intro v hv
  obtain ⟨x, _, rfl⟩ := List.mem_map.1 hv
  rfl

set_option maxRecDepth 100000 in
set_option maxHeartbeats 1000000 in
theorem grow_make (b n L most first : Nat) (a : Option Addr) (ended : Bool) (xs : List Int) (hx : xs.length = n) (hn : n < most) (hnL : n = L) (hmost : most ≤ 65536) (w : World)
    (hB : w.heap[b]? = some (.cells #[.slice a L L, .int .i64 first, .int .i64 n, .int .i64 most, .bool ended] 104 (0, 0)))
    (hp : ∀ k, Calls Tryd.prog 60 #[.pointer (some ⟨b, 0, none⟩), .int .i64 n] (w.drewN k) fun e w' => ∃ v, e = .returned v ∧ w'.ownsRow w.heap.size 5 1 v n (xs.map fun x => (Value.int .u8 (x))) ∧ Below w.heap.size w w') :
    Calls Tryd.prog 59 #[.pointer (some ⟨b, 0, none⟩)] w fun e w' => e = .returned (.tuple #[]) ∧ Longer b n most ended xs w w' := by
  obtain ⟨m, hm⟩ : ∃ m, longer L most = m := ⟨_, rfl⟩
  have hm2 : m ≤ most := by have := longer_le L most; omega
  have hm3 : n < m := by rw [← hm]; exact longer_lt hn (by omega)
  have hb : b < w.heap.size := (Array.getElem?_eq_some_iff.1 hB).1
  have h0 : w.cell? ⟨b, 0, none⟩ = some (.slice a L L) := cell_at hB 0
  have h2 : w.cell? ⟨b, 2, none⟩ = some (.int .i64 n) := cell_at hB 2
  have h3 : w.cell? ⟨b, 3, none⟩ = some (.int .i64 most) := cell_at hB 3
  have f0 : w.frozen? ⟨b, 0, none⟩ = false := frozen_of_row _ _ _ _ _ hB
  have HB := Lib.hid hB
  clear hB
  have HP : Hid _ := hp
  clear hp
  have HX := Lib.hid hx
  clear hx
  have HM := Lib.hid hm
  clear hm
  subst hnL
  go_enter Tryd.func59, Tryd.ntmps59
  go_wp2
  go_quiet (fail)
  go_wp2_with fail
  refine (HP.out _).mono ?_
  rintro e w1 ⟨v, rfl, hown, hbel⟩
  clear HP
  have g0 := (hbel.cell (p := ⟨b, 0, none⟩) hb).trans h0
  have g3 := (hbel.cell (p := ⟨b, 3, none⟩) hb).trans h3
  have e0 := (hbel.frozen (p := ⟨b, 0, none⟩) hb).trans f0
  have HB1 := Lib.hid ((hbel.block b hb).trans HB.out)
  clear h0 h2 h3 f0 HB
  have ew : IntKind.i64.wrap (2 * (n : Int)) = 2 * (n : Int) := IntWalk.i64_in _ (by omega)
  have hbs : b < w1.heap.size := by have := hbel.size; omega
  go_upto_region 2 with fail
  go_cut [] (fun w2 => ∃ k, w2 = ((w1.setCell ⟨b, 0, none⟩ (.slice (some ⟨w1.heap.size, 0, none⟩) m m)).alloc (.cells (madeCells #[(.int .u8 0)] m) 5)).drewN k)
  case first =>
    by_cases c1 : 8 < 2 * (n : Int)
    · by_cases c2 : 2 * (n : Int) < (most : Int)
      · have hmk := run_make_at m (by omega) (2 * (n : Int)) (by have := HM.out; unfold longer at this; omega)
        go_region
        all_goals (go_wp2; go_meet; exact ⟨1, rfl⟩)
      · have hmk := run_make_at m (by omega) (most : Int) (by have := HM.out; unfold longer at this; omega)
        go_region
        all_goals (go_wp2; go_meet; exact ⟨1, rfl⟩)
    · by_cases c2 : 8 < (most : Int)
      · have hmk := run_make_at m (by omega) 8 (by have := HM.out; unfold longer at this; omega)
        go_region
        all_goals (go_wp2; go_meet; exact ⟨1, rfl⟩)
      · have hmk := run_make_at m (by omega) (most : Int) (by have := HM.out; unfold longer at this; omega)
        go_region
        all_goals (go_wp2; go_meet; exact ⟨1, rfl⟩)
  case rest =>
  obtain ⟨kk, hw2⟩ := hcut
  clear g0 g3 e0 ew
  have hBW : wc.heap[b]? = some (.cells #[.slice (some ⟨w1.heap.size, 0, none⟩) m m, .int .i64 first, .int .i64 n, .int .i64 most, .bool ended] 104 (0, 0)) := by
    rw [hw2]
    refine (Below.heap_alloc _ _ _ (by simpa using hbs)).trans ?_
    exact heap_setCell_same w1 b 0 _ _ _ HB1.out
  have hR : wc.heap[w1.heap.size]? = some (.cells (madeCells #[(.int .u8 0)] m) 5 (0, 0)) := by
    rw [hw2]
    have := heap_alloc_new (w1.setCell ⟨b, 0, none⟩ (.slice (some ⟨w1.heap.size, 0, none⟩) m m)) (.cells (madeCells #[(.int .u8 0)] m) 5)
    simpa using this
  have hK : Keeps [b] w wc := by
    rw [hw2]
    refine ⟨hbel.os, hbel.tape, hbel.output, by have := hbel.size; simp; omega, fun k hk hkb => ?_⟩
    have hne : k ≠ b := by simpa using hkb
    refine (Below.heap_alloc _ _ _ (by have := hbel.size; simp; omega)).trans ((heap_setCell_other _ _ _ _ hne).trans (hbel.block k hk))
  have hs2 : wc.heap.size = w1.heap.size + 1 := by rw [hw2]; simp
  have hsrc : 0 < n → ∃ g, v.ownBlock = some g ∧ g ≠ b ∧ g < w1.heap.size ∧ ∀ j u, (xs.map fun x => (Value.int .u8 (x)))[j]? = some u → wc.cell? ((⟨g, 0, none⟩ : Addr).add j) = some u := by
    intro hpos
    rcases hown.2 with ⟨_, hz⟩ | ⟨g, cap, cur, rfl, hg1, hg2, _⟩
    · omega
    · have hglt := (Array.getElem?_eq_some_iff.1 hg2).1
      refine ⟨g, rfl, by omega, hglt, fun j u hu => ?_⟩
      have := hown.cells (g := g) rfl j u hu
      rw [hw2]
      have hadd : (⟨g, 0, none⟩ : Addr).add j = ⟨g, j, none⟩ := by unfold Addr.add; split <;> simp_all
      rw [hadd] at this ⊢
      rw [World.cell?_drewN, World.cell?_alloc_lt _ _ _ (by simpa using hglt), World.cell?_setCell_other _ _ _ _ (ne_block (by show b ≠ g; omega))]
      exact this
  clear hw2
  obtain ⟨r, hr⟩ : ∃ r, w1.heap.size = r := ⟨_, rfl⟩
  rw [hr] at hBW hR hs2 hsrc
  have hwr : w.heap.size ≤ r := hr ▸ hbel.size
  rw [hr] at hbs
  have hform : ∃ sp sc, v = .slice sp n sc ∧ (0 < n → ∃ ad, sp = some ad ∧ ∀ j u, (xs.map fun x => (Value.int .u8 (x)))[j]? = some u → wc.cell? (ad.add j) = some u) := by
    rcases hown.2 with ⟨rfl, hz⟩ | ⟨g, cap, cur, rfl, _⟩
    · exact ⟨none, 0, by rw [hz], fun hpos => by omega⟩
    · refine ⟨_, _, rfl, fun hpos => ?_⟩
      obtain ⟨g', hg', _, _, hc⟩ := hsrc hpos
      obtain rfl : g = g' := by simpa [Value.ownBlock] using hg'
      exact ⟨_, rfl, hc⟩
  clear hsrc hown HB1 hbel hr
  obtain ⟨sp, sc, rfl, hsp⟩ := hform
  have hlen : (xs.map fun x => (Value.int .u8 (x))).length = n := by rw [List.length_map]; exact HX.out
  have hone := oneCells xs
  have hrat := ring_at xs m (by have := HX.out; omega) (.int .u8 0)
  have hrsz := ring_size xs m (by have := HX.out; omega) (.int .u8 0)
  obtain ⟨cs, hcs⟩ : ∃ cs, (xs.map fun x => (Value.int .u8 (x))) = cs := ⟨_, rfl⟩
  rw [hcs] at hsp hlen hone hrat hrsz
  obtain ⟨z, hz⟩ : ∃ z, (madeCells #[(.int .u8 0)] m).toList = z := ⟨_, rfl⟩
  have hzl : z.length = m := by rw [← hz]; simp [size_madeCells]
  have hRz : wc.heap[r]? = some (.cells z.toArray 5 (0, 0)) := by rw [hR, ← hz]
  rw [hz] at hrat hrsz
  clear hcs hz hR
  have c0 : wc.cell? ⟨b, 0, none⟩ = some (.slice (some ⟨r, 0, none⟩) m m) := cell_at hBW 0
  have c1 : wc.cell? ⟨b, 1, none⟩ = some (.int .i64 first) := cell_at hBW 1
  have d1 : wc.frozen? ⟨b, 1, none⟩ = false := frozen_of_row _ _ _ _ _ hBW
  have HBW := Lib.hid hBW
  have HRz := Lib.hid hRz
  have HK := Lib.hid hK
  have HSP : Hid _ := hsp
  have HLEN := Lib.hid hlen
  have HONE : Hid _ := hone
  have HRAT : Hid _ := hrat
  have HRSZ := Lib.hid hrsz
  have HS2 := Lib.hid hs2
  clear hBW hRz hK hsp hlen hone hrat hrsz hs2
  have hmin : cs.length = Nat.min n m := by rw [HLEN.out]; show n = min n m; omega
  have HMIN := Lib.hid hmin
  clear hmin
  have HC1 : Hid (0 < cs.length → some (⟨r, 0, none⟩ : Addr) = some ⟨r, 0, none⟩ ∧ ∃ ad, sp = some ad ∧ ∀ j u, cs[j]? = some u → wc.cell? (ad.add j) = some u) := fun _ => ⟨rfl, HSP.out (by have := HLEN.out; omega)⟩
  have HC2 : Hid (0 + cs.length ≤ z.length) := by have := HLEN.out; show 0 + cs.length ≤ z.length; omega
  go_wp2_with (refine wpList_copy_splice rfl (.tmp 38) (.tmp 39) 22 22 rfl 5 Tryd.underlying22 cinfo (some ⟨r, 0, none⟩) sp m m n sc rfl rfl r 0 z 5 HRz.out cs HMIN.out HC1.out HC2.out HONE.out r wc (Below.refl _ _) (Nat.le_refl _) ?_; intro w3 h3 hb3; have k1 := (hb3.cell (p := ⟨b, 1, none⟩) hbs).trans c1; have k2 := (hb3.frozen (p := ⟨b, 1, none⟩) hbs).trans d1)
  go_end0
  refine ⟨rfl, r, m, _, hm3, hm2, hwr, ?_, ?_, HRSZ.out, HRAT.out, ?_⟩
  · exact heap_setCell_same w3 b 1 _ _ _ ((hb3.block b hbs).trans HBW.out)
  · exact (heap_setCell_other _ _ _ _ (by show r ≠ b; omega)).trans h3.out
  · have hk := HK.out
    refine ⟨hb3.os.trans hk.os, hb3.tape.trans hk.tape, hb3.output.trans hk.output, by have := hb3.size; have := HS2.out; simp; omega, fun k hkl hkb => ?_⟩
    have hne : k ≠ b := by simpa using hkb
    exact (heap_setCell_other _ _ _ _ (show k ≠ b from hne)).trans ((hb3.block k (by omega)).trans (hk.block k hkl hkb))

/-- grow, of a queue in memory that has room: behind it there is a place more in its ring. -/
theorem q_grow {w : World} {b : Nat} {F : List Nat} {xs : List Int} {most : Nat} {ended : Bool} (h : IsQ w b F xs most ended) (hn : xs.length < most) :
    Calls Tryd.prog 59 #[.pointer (some ⟨b, 0, none⟩)] w fun e w' => e = .returned (.tuple #[]) ∧ ∃ first r L ring, xs.length < L ∧ L ≤ most ∧ first < L ∧ r ≠ b ∧
      w'.heap[b]? = some (.cells #[.slice (some ⟨r, 0, none⟩) L L, .int .i64 first, .int .i64 xs.length, .int .i64 most, .bool ended] 104 (0, 0)) ∧
      w'.heap[r]? = some (.cells ring 5 (0, 0)) ∧ ring.size = L ∧ (∀ i, i < xs.length → ring[(first + i) % L]? = some ((Value.int .u8 (xs.getD i 0)))) ∧ Keeps F w w' ∧ (r ∈ F ∨ w.heap.size ≤ r) := by
  have hq := h
  obtain ⟨v, first, L, rb, hb, rfl, h1, h2, h3, h4, h5, hc⟩ := h
  have hpk : ∀ k, Calls Tryd.prog 60 #[.pointer (some ⟨b, 0, none⟩), .int .i64 xs.length] (w.drewN k) fun e w' => ∃ v, e = .returned v ∧ w'.ownsRow w.heap.size 5 1 v xs.length (xs.map fun x => (Value.int .u8 (x))) ∧ Below w.heap.size w w' := by
    intro k
    refine (q_peek (hq.same (w' := w.drewN k) (fun _ _ => rfl)) xs.length).mono ?_
    rintro e w' ⟨v, rfl, hown, hbel⟩
    have hcnt : count xs.length xs.length = xs.length := by unfold count; omega
    rw [hcnt, List.take_length] at hown
    exact ⟨v, rfl, hown, ⟨hbel.os, hbel.tape, hbel.output, hbel.size, hbel.block⟩⟩
  rcases hc with ⟨rfl, rfl, rfl⟩ | ⟨r, ring, rfl, a1, a2, a3, rfl, hr, a5, a6⟩
  · have hx : xs = [] := List.eq_nil_of_length_eq_zero (by omega)
    subst hx
    refine (grow_make b 0 0 most first none ended [] rfl hn rfl h5 w hb hpk).mono ?_
    rintro e w' ⟨rfl, r, m, ring, g1, g2, g3, g4, g5, g6, g7, g8⟩
    have hlt := (Array.getElem?_eq_some_iff.1 hb).1
    exact ⟨rfl, 0, r, m, ring, g1, g2, by omega, by omega, g4, g5, g6, g7, ⟨g8.os, g8.tape, g8.output, g8.size, fun k hk hn => g8.block k hk (by simpa using hn)⟩, .inr g3⟩
  · by_cases hlt : xs.length < L
    · refine (grow_no b xs.length L _ hlt w (cell_at hb 0) (cell_at hb 2)).mono ?_
      rintro e w' ⟨rfl, k, rfl⟩
      exact ⟨rfl, first, r, L, ring, hlt, h2, a2, a3, hb, hr, a5, a6, ⟨rfl, rfl, rfl, Nat.le_refl _, fun _ _ _ => rfl⟩, .inl (by simp)⟩
    · refine (grow_make b xs.length L most first _ ended xs rfl hn (by omega) h5 w hb hpk).mono ?_
      rintro e w' ⟨rfl, r', m, ring', g1, g2, g3, g4, g5, g6, g7, g8⟩
      have hlt := (Array.getElem?_eq_some_iff.1 hb).1
      exact ⟨rfl, 0, r', m, ring', g1, g2, by omega, by omega, g4, g5, g6, g7, ⟨g8.os, g8.tape, g8.output, g8.size, fun k hk hn => g8.block k hk (by simp at hn ⊢; exact hn.1)⟩, .inr g3⟩

end Go.Proofs.YthpdphbppapkhaaDoor.qb
