/-
  The walks of a queue's own functions at one kind of thing (New, Put, Take, Peek, Len, Room, End, Over, grow): what each answers and what becomes of the queue in memory. Condition: the queue lies in memory as 'IsQ' says.
-/
import Derived.Test.YthpdphbppapkhaaDoorRows
import Derived.WalkKit
import Derived.WalkSpells
import Derived.WalkLawsBesides
import Derived.BigQuiet
import Derived.Deep.QuietTactic
import Derived.OpenShut
import Derived.Deep.LoopGhost
import Derived.Deep.DeepCutAuto
import Derived.Deep.CutBlock
import Derived.Lib.Hide
import Derived.BigRegion
import Derived.Deep.RegionHeld3
import Derived.Deep.AppendLies
import Derived.Laws.CopyOwn
import Derived.StillTailTactics
namespace Go.Proofs.YthpdphbppapkhaaDoor.qb
open Go.RowKit

/-! ### plain calls -/
theorem len_nil (w : World) : Calls Tryd.prog 49 #[.pointer none] w fun e w' => e = .returned (.int .i64 0) ∧ w = w' := by
  go_enter Tryd.func49, Tryd.ntmps49
  go_wp2
  go_ret
  exact ⟨rfl, rfl⟩

theorem len_at (b : Nat) (n : Nat) (w : World) (h2 : w.cell? ⟨b, 2, none⟩ = some (.int .i64 n)) :
    Calls Tryd.prog 49 #[.pointer (some ⟨b, 0, none⟩)] w fun e w' => e = .returned (.int .i64 n) ∧ w = w' := by
  go_enter Tryd.func49, Tryd.ntmps49
  go_wp2
  go_ret
  exact ⟨rfl, rfl⟩

theorem room_ended (b : Nat) (w : World) (h4 : w.cell? ⟨b, 4, none⟩ = some (.bool true)) :
    Calls Tryd.prog 50 #[.pointer (some ⟨b, 0, none⟩)] w fun e w' => e = .returned (.int .i64 0) ∧ w = w' := by
  go_enter Tryd.func50, Tryd.ntmps50
  go_wp2
  go_ret
  exact ⟨rfl, rfl⟩

theorem room_open (b : Nat) (n most : Nat) (hn : n ≤ most) (hm : most ≤ 65536) (w : World) (h2 : w.cell? ⟨b, 2, none⟩ = some (.int .i64 n)) (h3 : w.cell? ⟨b, 3, none⟩ = some (.int .i64 most)) (h4 : w.cell? ⟨b, 4, none⟩ = some (.bool false)) :
    Calls Tryd.prog 50 #[.pointer (some ⟨b, 0, none⟩)] w fun e w' => e = .returned (.int .i64 ((most : Int) - n)) ∧ ∃ k, w' = w.drewN k := by
  go_enter Tryd.func50, Tryd.ntmps50
  go_wp2
  go_quiet (fail)
  go_wp2
  go_ret
  exact ⟨rfl, _, rfl⟩

theorem over_at (b : Nat) (n : Nat) (ended : Bool) (w : World) (h2 : w.cell? ⟨b, 2, none⟩ = some (.int .i64 n)) (h4 : w.cell? ⟨b, 4, none⟩ = some (.bool ended)) :
    Calls Tryd.prog 48 #[.pointer (some ⟨b, 0, none⟩)] w fun e w' => e = .returned (.bool (ended && decide (n = 0))) ∧ w = w' := by
  cases ended
  · go_enter Tryd.func48, Tryd.ntmps48
    go_wp2
    go_ret
    exact ⟨rfl, rfl⟩
  · by_cases h : n = 0
    · subst h
      go_enter Tryd.func48, Tryd.ntmps48
      go_wp2
      go_ret
      exact ⟨rfl, rfl⟩
    · have hz : ((n : Int) == 0) = false := by simp; omega
      go_enter Tryd.func48, Tryd.ntmps48
      go_wp2
      go_ret
      exact ⟨by simp [h], rfl⟩

theorem end_at (b : Nat) (ended : Bool) (w : World) (h4 : w.cell? ⟨b, 4, none⟩ = some (.bool ended)) (f4 : w.frozen? ⟨b, 4, none⟩ = false) :
    Calls Tryd.prog 47 #[.pointer (some ⟨b, 0, none⟩)] w fun e w' => e = .returned (.tuple #[]) ∧ w.setCell ⟨b, 4, none⟩ (.bool true) = w' := by
  go_enter Tryd.func47, Tryd.ntmps47
  go_wp2
  go_end0
  exact ⟨rfl, rfl⟩

theorem new_bad (room : Int) (h : room < 1 ∨ 65536 < room) (w : World) :
    Calls Tryd.prog 42 #[.int .i64 room] w fun e w' => e = .returned (.tuple #[.pointer none, .int .i64 3]) ∧ w = w' := by
  rcases h with h | h
  · go_enter Tryd.func42, Tryd.ntmps42
    go_wp2
    go_ret2
    exact ⟨rfl, rfl⟩
  · have h' : ¬ room < 1 := by omega
    go_enter Tryd.func42, Tryd.ntmps42
    go_wp2
    go_ret2
    exact ⟨rfl, rfl⟩

theorem new_ok (room : Int) (h1 : 1 ≤ room) (h2 : room ≤ 65536) (w : World) :
    Calls Tryd.prog 42 #[.int .i64 room] w fun e w' => e = .returned (.tuple #[.pointer (some ⟨w.heap.size, 0, none⟩), .int .i64 0]) ∧
      w.alloc (.cells #[.slice none 0 0, .int .i64 0, .int .i64 0, .int .i64 room, .bool false] 104) = w' := by
  have h' : ¬ room < 1 := by omega
  have h3 : ¬ 65536 < room := by omega
  go_enter Tryd.func42, Tryd.ntmps42
  go_wp2
  go_ret2
  exact ⟨rfl, rfl⟩

/-! ### Peek -/
theorem info : (Tryd.prog.info? 5).map (fun i => (i.zero, i.size, i.bytes)) = some (some (.int .u8 0), 1, 1) := by kernel_rfl

theorem tmod_nat (a b L q : Nat) (hq : (a + b) % L = q) : ((a : Int) + (b : Int)).tmod (L : Int) = (q : Int) := by
  subst hq
  rw [Int.tmod_eq_emod_of_nonneg (by omega)]
  rfl

theorem list_next {xs : List Int} {i : Nat} (h : i < xs.length) {t : Int} (ht : xs.getD i 0 = t) : (xs.take i).map (fun x => (Value.int .u8 (x))) ++ [(Value.int .u8 (t))] = (xs.take (i + 1)).map fun x => (Value.int .u8 (x)) := by
  subst ht
  rw [List.take_succ_eq_append_getElem h, List.map_append]
  simp [List.getElem?_eq_getElem h]

/-- How many of the n first ones there are. -/
def count (n : Int) (len : Nat) : Nat := (min n len).toNat

theorem count_le (n : Int) (len : Nat) : count n len ≤ len := by unfold count; omega

set_option maxRecDepth 100000 in
set_option maxHeartbeats 1000000 in
theorem peek_ring (b r first L : Nat) (xs : List Int) (arg : Int) (w : World) (hb : b < w.heap.size) (hr : r < w.heap.size) (hL : 0 < L) (hL2 : L ≤ 65536) (hf : first < L) (hn : xs.length ≤ L)
    (h0 : w.cell? ⟨b, 0, none⟩ = some (.slice (some ⟨r, 0, none⟩) L L)) (h1 : w.cell? ⟨b, 1, none⟩ = some (.int .i64 first)) (h2 : w.cell? ⟨b, 2, none⟩ = some (.int .i64 xs.length))
    (hc : ∀ i, i < xs.length → w.cell? ⟨r, (first + i) % L, none⟩ = some ((Value.int .u8 (xs.getD i 0)))) :
    Calls Tryd.prog 60 #[.pointer (some ⟨b, 0, none⟩), .int .i64 arg] w fun e w' => ∃ v, e = .returned v ∧ w'.ownsRow w.heap.size 5 1 v (count arg xs.length) ((xs.take (count arg xs.length)).map fun x => (Value.int .u8 (x))) ∧ Below w.heap.size w w' := by
  obtain ⟨i0, hi0, hz0, hz1, hz2⟩ := info_parts info
  obtain ⟨k, hk⟩ : ∃ k, count arg xs.length = k := ⟨_, rfl⟩
  have hkn : k ≤ xs.length := hk ▸ count_le _ _
  have hk1 : k = (min arg xs.length).toNat := by rw [← hk]; rfl
  rw [hk]
  clear hk
  obtain ⟨n, hn0⟩ : ∃ n, xs.length = n := ⟨_, rfl⟩
  rw [hn0] at hn h2 hc hkn hk1
  have Hn := Lib.hid hn0
  clear hn0
  have Hk := Lib.hid hk1
  clear hk1
  go_enter Tryd.func60, Tryd.ntmps60
  go_upto_region 2 with (go_at_call 49; refine (len_at _ n _ h2).mono ?_; rintro e w' ⟨rfl, rfl⟩)
  go_cut [11, 12] (fun v11 v12 w' => v11 = .int .i64 k ∧ v12 = .int .i64 0 ∧ w = w')
  case first =>
    go_wp2_with (go_at_call 49; refine (len_at _ n _ h2).mono ?_; rintro e w' ⟨rfl, rfl⟩)
    all_goals (go_meet; exact ⟨congrArg (Value.int .i64) (by have := Hk.out; omega), rfl, rfl⟩)
  case rest =>
  obtain ⟨rfl, rfl, rfl⟩ := hcut
  go_wp2_with fail
  go_loopg [5, 12] k (fun g v5 v12 wr => ∃ i : Nat, i + g = k ∧ v12 = .int .i64 i ∧ wr.ownsRow w.heap.size 5 1 v5 i ((xs.take i).map fun x => (Value.int .u8 (x))) ∧ Below w.heap.size w wr)
  case atStart => exact ⟨0, by omega, rfl, World.ownsRow_nil _ _ _ _, Below.refl _ _⟩
  case round =>
    obtain ⟨i, hi, rfl, hown, hbel⟩ := hrel
    by_cases hlt : i < k
    · have g0 := (hbel.cell (p := ⟨b, 0, none⟩) hb).trans h0
      have g1 := (hbel.cell (p := ⟨b, 1, none⟩) hb).trans h1
      have gc := (hbel.cell (p := ⟨r, (first + i) % L, none⟩) hr).trans (hc i (by omega))
      obtain ⟨t, ht⟩ : ∃ t, xs.getD i 0 = t := ⟨_, rfl⟩
      rw [ht] at gc
      obtain ⟨q, hq⟩ : ∃ q, (first + i) % L = q := ⟨_, rfl⟩
      have hqL : q < L := hq ▸ Nat.mod_lt _ hL
      have e1 : IntKind.i64.wrap ((first : Int) + (i : Int)) = (first : Int) + (i : Int) := IntWalk.i64_in _ (by omega)
      have e2 := tmod_nat first i L q hq
      rw [hq] at gc
      have Ht := Lib.hid ht
      have hl : (0 : Int) ≤ (q : Int) := Int.natCast_nonneg _
      have hLn : ¬ L = 0 := by omega
      have hLi : ¬ (L : Int) = 0 := by omega
      have hl2 : (q : Int) < (L : Int) := by omega
      have hsz := hbel.size
      have ub : u5.ownBlock ≠ some b := fun e => by have := (hown.lt b e).1; omega
      have ur : u5.ownBlock ≠ some r := fun e => by have := (hown.lt r e).1; omega
      clear ht hc h0 h1 h2 hq
      go_wp2_with fail
      go_region_held3 (fun w' => w'.cell? ⟨b, 0, none⟩ = some (.slice (some ⟨r, 0, none⟩) L L) ∧ w'.cell? ⟨b, 1, none⟩ = some (.int .i64 first) ∧ w'.cell? ⟨r, q, none⟩ = some ((Value.int .u8 (t))))
        (first
          | go_keep
          | (go_split_ands
             refine ⟨?_, ?_, ?_⟩
             · (rw [hgrow.cell_far _ (by simp; omega) (Ne.symm ub)]; assumption)
             · (rw [hgrow.cell_far _ (by simp; omega) (Ne.symm ub)]; assumption)
             · (rw [hgrow.cell_far _ (by simp; omega) (Ne.symm ur)]; assumption)))
        ((refine step_append_lies _ (by rfl) _ _ _ (by rfl) w.heap.size 5 i0 _ 1 1 Tryd.underlying22 hi0 hz0 hz1 hz2 rfl (by omega) u5 i _ (by rfl) ((hown.alloc _).drew)
            ⟨wr.heap.size, 0, none⟩ 1 1 [(Value.int .u8 (t))] (by rfl) (by rfl) (World.news_of_block (cs := #[(Value.int .u8 (t))]) (t := 5) (fr := (0, 0)) (heap_alloc_new wr _)) (by simp [Value.oneCell'])
            (by omega) (by unfold maxLen; omega) (by omega) (by simp; omega) (wr.heap.size + 1) (by simp) ?_; intro gg cap w1 hown1 hgrow hat hlt'))
      go_wp2
      go_roundg (k - (i + 1))
      case measure => omega
      case rel =>
        refine ⟨i + 1, by omega, by go_num, ?_, ?_⟩
        · rw [← list_next (by have := Hn.out; omega) Ht.out]; exact hown1
        · exact ((hbel.alloc hsz _).drew).grown hgrow (by simp; omega) (fun j hj => (hown.lt j hj).1)
    · obtain rfl : i = k := by omega
      clear hc h0 h1 h2
      go_wp2_with fail
      go_ret
      exact ⟨_, rfl, hown, hbel⟩

theorem peek_zero (b : Nat) (arg : Int) (w : World) (h2 : w.cell? ⟨b, 2, none⟩ = some (.int .i64 0)) :
    Calls Tryd.prog 60 #[.pointer (some ⟨b, 0, none⟩), .int .i64 arg] w fun e w' => e = .returned (.slice none 0 0) ∧ w = w' := by
  go_enter Tryd.func60, Tryd.ntmps60
  go_upto_region 2 with (go_at_call 49; refine (len_at _ 0 _ h2).mono ?_; rintro e w' ⟨rfl, rfl⟩)
  go_cut [11, 12] (fun v11 v12 w' => v11 = .int .i64 0 ∧ v12 = .int .i64 0 ∧ w = w')
  case first =>
    go_wp2_with (go_at_call 49; refine (len_at _ 0 _ h2).mono ?_; rintro e w' ⟨rfl, rfl⟩)
    all_goals (go_meet; exact ⟨congrArg (Value.int .i64) (by omega), rfl, rfl⟩)
  case rest =>
  obtain ⟨rfl, rfl, rfl⟩ := hcut
  clear h2
  go_wp2_with fail
  go_loopg [5, 12] 0 (fun g v5 v12 wr => v5 = .slice none 0 0 ∧ v12 = .int .i64 0 ∧ wr = w)
  case atStart => exact ⟨rfl, rfl, rfl⟩
  case round =>
    obtain ⟨rfl, rfl, rfl⟩ := hrel
    go_wp2_with fail
    go_ret
    exact ⟨rfl, rfl⟩

theorem peek_nil (arg : Int) (w : World) :
    Calls Tryd.prog 60 #[.pointer none, .int .i64 arg] w fun e w' => e = .returned (.slice none 0 0) ∧ w = w' := by
  go_enter Tryd.func60, Tryd.ntmps60
  go_upto_region 2 with (go_at_call 49; refine (len_nil _).mono ?_; rintro e w' ⟨rfl, rfl⟩)
  go_cut [11, 12] (fun v11 v12 w' => v11 = .int .i64 0 ∧ v12 = .int .i64 0 ∧ w = w')
  case first =>
    go_wp2_with (go_at_call 49; refine (len_nil _).mono ?_; rintro e w' ⟨rfl, rfl⟩)
    all_goals (go_meet; exact ⟨congrArg (Value.int .i64) (by omega), rfl, rfl⟩)
  case rest =>
  obtain ⟨rfl, rfl, rfl⟩ := hcut
  go_wp2_with fail
  go_loopg [5, 12] 0 (fun g v5 v12 wr => v5 = .slice none 0 0 ∧ v12 = .int .i64 0 ∧ wr = w)
  case atStart => exact ⟨rfl, rfl, rfl⟩
  case round =>
    obtain ⟨rfl, rfl, rfl⟩ := hrel
    go_wp2_with fail
    go_ret
    exact ⟨rfl, rfl⟩

/-! ### a queue in memory -/
/-- Of the blocks that were there, all but those of F are as they were; the streams are. -/
structure Keeps (F : List Nat) (w w' : World) : Prop where
  os : w'.os = w.os
  tape : w'.tape = w.tape
  output : w'.output = w.output
  size : w.heap.size ≤ w'.heap.size
  block : ∀ k, k < w.heap.size → k ∉ F → w'.heap[k]? = w.heap[k]?

theorem Keeps.refl (F : List Nat) (w : World) : Keeps F w w := ⟨rfl, rfl, rfl, Nat.le_refl _, fun _ _ _ => rfl⟩

/-- The second step may also write blocks that the first one has made. -/
theorem Keeps.trans {F F' : List Nat} {a b c : World} (h : Keeps F a b) (k : Keeps F' b c) (hF : ∀ x, x ∈ F' → x ∈ F ∨ a.heap.size ≤ x) : Keeps F a c :=
  ⟨k.os.trans h.os, k.tape.trans h.tape, k.output.trans h.output, Nat.le_trans h.size k.size, fun i hi hn =>
    (k.block i (Nat.lt_of_lt_of_le hi h.size) (fun hm => (hF i hm).elim hn (fun hle => by omega))).trans (h.block i hi hn)⟩

theorem Keeps.of_below {w w' : World} (h : Below w.heap.size w w') (F : List Nat) : Keeps F w w' := ⟨h.os, h.tape, h.output, h.size, fun k hk _ => h.block k hk⟩

/-- What is kept, seen from below a block number under all of F. -/
theorem Keeps.below {F : List Nat} {w0 w w' : World} (h : Keeps F w w') {B : Nat} (hb : Below B w0 w) (hF : ∀ x, x ∈ F → B ≤ x) (hs : B ≤ w.heap.size) : Below B w0 w' :=
  hb.trans ⟨h.os, h.tape, h.output, h.size, fun k hk => h.block k (by omega) (fun hm => by have := hF k hm; omega)⟩

/-- Block b is a queue that may hold 'most' things, at its end or not; xs wait, in order; F: its blocks. -/
def IsQ (w : World) (b : Nat) (F : List Nat) (xs : List Int) (most : Nat) (ended : Bool) : Prop :=
  ∃ (v : Value) (first L : Nat) (rb : Option Nat),
    w.heap[b]? = some (.cells #[v, .int .i64 first, .int .i64 xs.length, .int .i64 most, .bool ended] 104 (0, 0)) ∧ F = b :: rb.toList ∧ xs.length ≤ L ∧ L ≤ most ∧ xs.length ≤ most ∧ 1 ≤ most ∧ most ≤ 65536 ∧
    ((L = 0 ∧ rb = none ∧ v = .slice none 0 0) ∨
     ∃ (r : Nat) (ring : Array Value), rb = some r ∧ 0 < L ∧ first < L ∧ r ≠ b ∧ v = .slice (some ⟨r, 0, none⟩) L L ∧ w.heap[r]? = some (.cells ring 5 (0, 0)) ∧ ring.size = L ∧
       ∀ i, i < xs.length → ring[(first + i) % L]? = some ((Value.int .u8 (xs.getD i 0))))

theorem IsQ.lt {w : World} {b : Nat} {F : List Nat} {xs : List Int} {most : Nat} {ended : Bool} (h : IsQ w b F xs most ended) : ∀ k, k ∈ F → k < w.heap.size := by
  obtain ⟨v, first, L, rb, hb, rfl, _, _, _, _, _, hc⟩ := h
  intro k hk
  rcases List.mem_cons.1 hk with rfl | hk
  · exact (Array.getElem?_eq_some_iff.1 hb).1
  · rcases hc with ⟨_, rfl, _⟩ | ⟨r, ring, rfl, _, _, _, _, hr, _⟩
    · cases hk
    · obtain rfl : k = r := by simpa using hk
      exact (Array.getElem?_eq_some_iff.1 hr).1

theorem IsQ.mem {w : World} {b : Nat} {F : List Nat} {xs : List Int} {most : Nat} {ended : Bool} (h : IsQ w b F xs most ended) : b ∈ F := by
  obtain ⟨v, first, L, rb, hb, rfl, _⟩ := h
  exact List.mem_cons_self

theorem IsQ.room {w : World} {b : Nat} {F : List Nat} {xs : List Int} {most : Nat} {ended : Bool} (h : IsQ w b F xs most ended) : xs.length ≤ most ∧ 1 ≤ most ∧ most ≤ 65536 := by
  obtain ⟨v, first, L, rb, hb, rfl, h1, h2, h3, h4, h5, _⟩ := h
  exact ⟨h3, h4, h5⟩

/-- A queue stays where its blocks stay. -/
theorem IsQ.same {w w' : World} {b : Nat} {F : List Nat} {xs : List Int} {most : Nat} {ended : Bool} (h : IsQ w b F xs most ended) (hs : ∀ k, k ∈ F → w'.heap[k]? = w.heap[k]?) : IsQ w' b F xs most ended := by
  obtain ⟨v, first, L, rb, hb, rfl, h1, h2, h3, h4, h5, hc⟩ := h
  refine ⟨v, first, L, rb, (hs b List.mem_cons_self).trans hb, rfl, h1, h2, h3, h4, h5, ?_⟩
  rcases hc with hc | ⟨r, ring, rfl, a1, a2, a3, a4, hr, a5, a6⟩
  · exact .inl hc
  · exact .inr ⟨r, ring, rfl, a1, a2, a3, a4, (hs r (by simp)).trans hr, a5, a6⟩

theorem IsQ.keeps {w w' : World} {b : Nat} {F G : List Nat} {xs : List Int} {most : Nat} {ended : Bool} (h : IsQ w b F xs most ended) (hk : Keeps G w w') (hd : ∀ k, k ∈ F → k ∉ G) : IsQ w' b F xs most ended :=
  h.same fun k hm => hk.block k (h.lt k hm) (hd k hm)

theorem IsQ.below {w w' : World} {b : Nat} {F : List Nat} {xs : List Int} {most : Nat} {ended : Bool} (h : IsQ w b F xs most ended) {B : Nat} (hb : Below B w w') (hB : w.heap.size ≤ B) : IsQ w' b F xs most ended :=
  h.same fun k hm => hb.block k (by have := h.lt k hm; omega)

/-- A new queue. -/
theorem isQ_new (w : World) (room : Nat) (h1 : 1 ≤ room) (h2 : room ≤ 65536) : IsQ (w.alloc (.cells #[.slice none 0 0, .int .i64 0, .int .i64 0, .int .i64 room, .bool false] 104)) w.heap.size [w.heap.size] [] room false :=
  ⟨.slice none 0 0, 0, 0, none, heap_alloc_new w _, rfl, Nat.le_refl _, Nat.zero_le _, Nat.zero_le _, h1, h2, .inl ⟨rfl, rfl, rfl⟩⟩

/-! ### the calls, of a queue in memory -/
section
variable {w : World} {b : Nat} {F : List Nat} {xs : List Int} {most : Nat} {ended : Bool}

theorem cell_at {cs : Array Value} {t : TypeId} {fr : Nat × Nat} (h : w.heap[b]? = some (.cells cs t fr)) (j : Nat) : w.cell? ⟨b, j, none⟩ = cs[j]? := cell_of_row w b j cs t fr h

theorem q_len (h : IsQ w b F xs most ended) : Calls Tryd.prog 49 #[.pointer (some ⟨b, 0, none⟩)] w fun e w' => e = .returned (.int .i64 xs.length) ∧ w = w' := by
  obtain ⟨v, first, L, rb, hb, rfl, _⟩ := h
  exact len_at b _ w (cell_at hb 2)

theorem q_over (h : IsQ w b F xs most ended) : Calls Tryd.prog 48 #[.pointer (some ⟨b, 0, none⟩)] w fun e w' => e = .returned (.bool (ended && decide (xs.length = 0))) ∧ w = w' := by
  obtain ⟨v, first, L, rb, hb, rfl, _⟩ := h
  exact over_at b _ _ w (cell_at hb 2) (cell_at hb 4)

/-- What Room tells. -/
def roomOf (n most : Nat) (ended : Bool) : Int := if ended then 0 else (most : Int) - n

theorem q_room (h : IsQ w b F xs most ended) : Calls Tryd.prog 50 #[.pointer (some ⟨b, 0, none⟩)] w fun e w' => e = .returned (.int .i64 (roomOf xs.length most ended)) ∧ ∃ k, w' = w.drewN k := by
  have hr := h.room
  obtain ⟨v, first, L, rb, hb, rfl, _⟩ := h
  cases ended
  · exact room_open b _ most hr.1 hr.2.2 w (cell_at hb 2) (cell_at hb 3) (cell_at hb 4)
  · refine (room_ended b w (cell_at hb 4)).mono ?_
    rintro e w' ⟨rfl, rfl⟩
    exact ⟨rfl, 0, rfl⟩

theorem q_peek (h : IsQ w b F xs most ended) (arg : Int) : Calls Tryd.prog 60 #[.pointer (some ⟨b, 0, none⟩), .int .i64 arg] w fun e w' =>
    ∃ v, e = .returned v ∧ w'.ownsRow w.heap.size 5 1 v (count arg xs.length) ((xs.take (count arg xs.length)).map fun x => (Value.int .u8 (x))) ∧ Below w.heap.size w w' := by
  have hlt := h.lt
  obtain ⟨v, first, L, rb, hb, rfl, h1, h2, h3, h4, h5, hc⟩ := h
  rcases hc with ⟨rfl, rfl, rfl⟩ | ⟨r, ring, rfl, a1, a2, a3, rfl, hr, a5, a6⟩
  · have hx : xs = [] := List.eq_nil_of_length_eq_zero (by omega)
    subst hx
    refine (peek_zero b arg w (cell_at hb 2)).mono ?_
    rintro e w' ⟨rfl, rfl⟩
    have hz : count arg 0 = 0 := by have := count_le arg 0; omega
    simp only [List.length_nil, hz]
    exact ⟨_, rfl, World.ownsRow_nil _ _ _ _, Below.refl _ _⟩
  · exact peek_ring b r first L xs arg w (hlt b List.mem_cons_self) (hlt r (by simp)) a1 (by omega) a2 h1 (cell_at hb 0) (cell_at hb 1) (cell_at hb 2) (fun i hi => (cell_at hr _).trans (a6 i hi))
end

end Go.Proofs.YthpdphbppapkhaaDoor.qb
