/-
  The walks of a queue's Take and Put: what they answer and what then waits. Condition: the queue lies in memory as 'IsQ' says; what is put lies in none of its blocks.
-/
import Derived.Test.YthpdphbppapkhaaDoorGrow
namespace Go.Proofs.YthpdphbppapkhaaDoor.qb
open Go.RowKit

/-! ### plain facts -/
theorem room_nil (w : World) : Calls Tryd.prog 50 #[.pointer none] w fun e w' => e = .returned (.int .i64 0) ∧ w = w' := by
  go_enter Tryd.func50, Tryd.ntmps50
  go_wp2
  go_ret
  exact ⟨rfl, rfl⟩

theorem mod_ne {first i n L : Nat} (h : i < n) (hn : n < L) : (first + i) % L ≠ (first + n) % L := by
  intro e
  have h1 := Nat.sub_mod_eq_zero_of_mod_eq e.symm
  have h2 : first + n - (first + i) = n - i := by omega
  rw [h2, Nat.mod_eq_of_lt (by omega)] at h1
  omega

theorem mod_step (first k i L : Nat) : ((first + k) % L + i) % L = (first + (k + i)) % L := by
  rw [Nat.mod_add_mod, Nat.add_assoc]

/-- Behind a Take. -/
theorem IsQ.taken {w' : World} {b r first L : Nat} {xs : List Int} {most : Nat} {ended : Bool} {ring : Array Value} {k : Nat} (hk : k ≤ xs.length) (h1 : xs.length ≤ L) (h2 : L ≤ most) (h3 : xs.length ≤ most) (h4 : 1 ≤ most) (h5 : most ≤ 65536)
    (hL : 0 < L) (hrb : r ≠ b)
    (hb : w'.heap[b]? = some (.cells #[.slice (some ⟨r, 0, none⟩) L L, .int .i64 ((first + k) % L : Nat), .int .i64 (xs.length - k : Nat), .int .i64 most, .bool ended] 104 (0, 0)))
    (hr : w'.heap[r]? = some (.cells ring 5 (0, 0))) (hs : ring.size = L) (ha : ∀ i, i < xs.length → ring[(first + i) % L]? = some ((Value.int .u8 (xs.getD i 0)))) :
    IsQ w' b (b :: (some r).toList) (xs.drop k) most ended := by
  refine ⟨_, (first + k) % L, L, some r, ?_, rfl, by simp; omega, h2, by simp; omega, h4, h5, .inr ⟨r, ring, rfl, hL, Nat.mod_lt _ hL, hrb, rfl, hr, hs, fun i hi => ?_⟩⟩
  · rw [hb, List.length_drop]
  · rw [mod_step, ha (k + i) (by simp at hi; omega)]
    simp [List.getD_eq_getElem?_getD]

/-- What Take does to the queue's own block. -/
def Moved (b first L n k : Nat) (w1 w' : World) : Prop :=
  (k = 0 ∧ w' = w1) ∨ (0 < k ∧ ∃ kk, w' = ((w1.setCell ⟨b, 1, none⟩ (.int .i64 ((first + k) % L : Nat))).setCell ⟨b, 2, none⟩ (.int .i64 (n - k : Nat))).drewN kk)

/-- Whatever is known of the world behind Peek: Take moves first on, and lowers n. -/
theorem take_any (b r first L n k : Nat) (arg : Int) (w : World) (S : Value → World → Prop) (hkn : k ≤ n) (hnL : n ≤ L) (hL2 : L ≤ 65536) (hf : L = 0 ∨ first < L)
    (hpk : Calls Tryd.prog 60 #[.pointer (some ⟨b, 0, none⟩), .int .i64 arg] w fun e w' => ∃ sp sc, e = .returned (.slice sp k sc) ∧
      (0 < k → w'.cell? ⟨b, 0, none⟩ = some (.slice (some ⟨r, 0, none⟩) L L)) ∧ w'.cell? ⟨b, 1, none⟩ = some (.int .i64 first) ∧ w'.cell? ⟨b, 2, none⟩ = some (.int .i64 n) ∧ w'.frozen? ⟨b, 1, none⟩ = false ∧ w'.frozen? ⟨b, 2, none⟩ = false ∧ S (.slice sp k sc) w') :
    Calls Tryd.prog 46 #[.pointer (some ⟨b, 0, none⟩), .int .i64 arg] w fun e w' => ∃ v w1, e = .returned v ∧ S v w1 ∧ Moved b first L n k w1 w' := by
  have HP : Hid _ := hpk
  clear hpk
  by_cases hk0 : k = 0
  · subst hk0
    go_enter Tryd.func46, Tryd.ntmps46
    go_wp2_with fail
    refine Calls.mono HP.out ?_
    rintro e w1 ⟨sp, sc, rfl, _, _, _, _, _, hS⟩
    clear HP
    go_wp2_with fail
    go_ret
    exact ⟨_, w1, rfl, hS, .inl ⟨rfl, rfl⟩⟩
  · obtain ⟨q, hq⟩ : ∃ q, (first + k) % L = q := ⟨_, rfl⟩
    have hL0 : 0 < L := by omega
    have hf' : first < L := by omega
    have hqL : q < L := hq ▸ Nat.mod_lt _ hL0
    have e1 : IntKind.i64.wrap ((first : Int) + (k : Int)) = (first : Int) + (k : Int) := IntWalk.i64_in _ (by omega)
    have e2 := tmod_nat first k L q hq
    have hLn : ¬ L = 0 := by omega
    have hLi : ¬ (L : Int) = 0 := by omega
    have hkp : 0 < (k : Int) := by omega
    have hkp' : 0 < k := by omega
    have HQ := Lib.hid hq
    clear hq hf hk0
    go_enter Tryd.func46, Tryd.ntmps46
    go_wp2_with fail
    refine Calls.mono HP.out ?_
    rintro e w1 ⟨sp, sc, rfl, g0, g1, g2, f1, f2, hS⟩
    have g0 := g0 hkp'
    clear HP
    go_wp2_with fail
    go_region
    go_wp2_with fail
    go_ret
    refine ⟨_, w1, rfl, hS, .inr ⟨hkp', 1, ?_⟩⟩
    rw [Int.ofNat_sub hkn, HQ.out]
    rfl

theorem take_nil (arg : Int) (w : World) :
    Calls Tryd.prog 46 #[.pointer none, .int .i64 arg] w fun e w' => e = .returned (.slice none 0 0) ∧ w = w' := by
  go_enter Tryd.func46, Tryd.ntmps46
  go_wp2_with (go_at_call 60; refine (peek_nil arg _).mono ?_; rintro e w' ⟨rfl, rfl⟩)
  go_ret
  exact ⟨rfl, rfl⟩

theorem put_nil (a : Option Addr) (m cap : Nat) (w : World) :
    Calls Tryd.prog 44 #[.pointer none, .slice a m cap] w fun e w' => e = .returned (.int .i64 0) ∧ w = w' := by
  go_enter Tryd.func44, Tryd.ntmps44
  go_upto_region 1 with fail
  go_cut [5] (fun v5 w' => v5 = .int .i64 0 ∧ w = w')
  case first =>
    go_wp2_with (go_at_call 50; refine (room_nil _).mono ?_; rintro e w' ⟨rfl, rfl⟩)
    all_goals (go_meet; exact ⟨congrArg (Value.int .i64) (by omega), rfl⟩)
  case rest =>
  obtain ⟨rfl, rfl⟩ := hcut
  go_wp2_with fail
  go_loopg [17] 0 (fun g v17 wr => v17 = .int .i64 0 ∧ wr = w)
  case atStart => exact ⟨rfl, rfl⟩
  case round =>
    obtain ⟨rfl, rfl⟩ := hrel
    go_wp2_with fail
    go_ret
    exact ⟨rfl, rfl⟩

/-- Take, of a queue in memory. -/
def Taken (w : World) (b : Nat) (F : List Nat) (xs : List Int) (most : Nat) (ended : Bool) (arg : Int) (e : Ending) (w' : World) : Prop :=
  ∃ v, e = .returned v ∧ w'.ownsRow w.heap.size 5 1 v (count arg xs.length) ((xs.take (count arg xs.length)).map fun x => (Value.int .u8 (x))) ∧ IsQ w' b F (xs.drop (count arg xs.length)) most ended ∧ Keeps F w w'

theorem own_form {w : World} {base : Nat} {E : TypeId} {v : Value} {n : Nat} {ys : List Value} (h : w.ownsRow base E 1 v n ys) : ∃ sp sc, v = .slice sp n sc := by
  rcases h.2 with ⟨rfl, rfl⟩ | ⟨g, cap, cur, rfl, _⟩
  · exact ⟨_, _, rfl⟩
  · exact ⟨_, _, rfl⟩

/-- What one owns stays where two cells of another block are written. -/
theorem own_set2 {w : World} {base : Nat} {E : TypeId} {v : Value} {n : Nat} {ys : List Value} (h : w.ownsRow base E 1 v n ys) {b : Nat} (hb : b < base) (i j kk : Nat) (x y : Value) :
    (((w.setCell ⟨b, i, none⟩ x).setCell ⟨b, j, none⟩ y).drewN kk).ownsRow base E 1 v n ys :=
  ownsRow_setCell_below (ownsRow_setCell_below h (a := ⟨b, i, none⟩) hb x) (a := ⟨b, j, none⟩) hb y

theorem q_take {w : World} {b : Nat} {F : List Nat} {xs : List Int} {most : Nat} {ended : Bool} (h : IsQ w b F xs most ended) (arg : Int) :
    Calls Tryd.prog 46 #[.pointer (some ⟨b, 0, none⟩), .int .i64 arg] w (Taken w b F xs most ended arg) := by
  have hq := h
  have hpeek := q_peek h arg
  obtain ⟨k, hk⟩ : ∃ k, count arg xs.length = k := ⟨_, rfl⟩
  have hkn : k ≤ xs.length := hk ▸ count_le _ _
  have hlt := h.lt
  unfold Taken
  rw [hk] at hpeek ⊢
  obtain ⟨v0, first, L, rb, hb, rfl, h1, h2, h3, h4, h5, hc⟩ := h
  have hblt := hlt b List.mem_cons_self
  have hv0 : 0 < k → v0 = .slice (some ⟨rb.getD 0, 0, none⟩) L L := by
    intro hk0
    rcases hc with ⟨rfl, rfl, rfl⟩ | ⟨r, ring, rfl, a1, a2, a3, rfl, _⟩
    · omega
    · rfl
  refine (take_any b (rb.getD 0) first L xs.length k arg w (fun v w1 => w1.ownsRow w.heap.size 5 1 v k ((xs.take k).map fun x => (Value.int .u8 (x))) ∧ Below w.heap.size w w1) hkn h1 (by omega) ?_ ?_).mono ?_
  · rcases hc with ⟨rfl, _⟩ | ⟨r, ring, rfl, a1, a2, _⟩
    · exact .inl rfl
    · exact .inr a2
  · refine hpeek.mono ?_
    rintro e w1 ⟨v, rfl, hown, hbel⟩
    obtain ⟨sp, sc, rfl⟩ := own_form hown
    have hb1 := (hbel.block b hblt).trans hb
    refine ⟨sp, sc, rfl, fun hk0 => ?_, cell_at hb1 1, cell_at hb1 2, frozen_of_row _ _ _ _ _ hb1, frozen_of_row _ _ _ _ _ hb1, hown, hbel⟩
    rw [← hv0 hk0]
    exact cell_at hb1 0
  · rintro e w' ⟨v, w1, rfl, ⟨hown, hbel⟩, ⟨rfl, rfl⟩ | ⟨hk0, kk, rfl⟩⟩
    · exact ⟨v, rfl, hown, by simpa using hq.below hbel (Nat.le_refl _), Keeps.of_below hbel _⟩
    · refine ⟨v, rfl, own_set2 hown hblt 1 2 kk _ _, ?_, ?_⟩
      · rcases hc with ⟨rfl, _⟩ | ⟨r, ring, rfl, a1, a2, a3, rfl, hr, a5, a6⟩
        · omega
        · have hb1 := (hbel.block b hblt).trans hb
          have hr1 := (hbel.block r (hlt r (by simp))).trans hr
          refine IsQ.taken hkn h1 h2 h3 h4 h5 a1 a3 ?_ ?_ a5 a6
          · exact heap_setCell_same _ b 2 _ _ _ (heap_setCell_same w1 b 1 _ _ _ hb1)
          · exact (heap_setCell_other _ _ _ _ (show r ≠ b from a3)).trans ((heap_setCell_other _ _ _ _ (show r ≠ b from a3)).trans hr1)
      · refine ⟨hbel.os, hbel.tape, hbel.output, by have := hbel.size; simpa using this, fun x hx hxF => ?_⟩
        have hne : x ≠ b := fun e => hxF (by rw [e]; exact List.mem_cons_self)
        exact (heap_setCell_other _ _ _ _ (show x ≠ b from hne)).trans ((heap_setCell_other _ _ _ _ (show x ≠ b from hne)).trans (hbel.block x hx))

/-- What is handed in: m things ys, in memory that is none of F's blocks. -/
def GivenIn (w : World) (F : List Nat) (xa : Option Addr) (m cap : Nat) (ys : List Int) : Prop :=
  m ≤ cap ∧ cap ≤ maxLen ∧ ys.length = m ∧ ∀ i, i < m → ∃ xb xo, xa = some ⟨xb, xo, none⟩ ∧ xb < w.heap.size ∧ xb ∉ F ∧ w.cell? ⟨xb, xo + i, none⟩ = some ((Value.int .u8 (ys.getD i 0)))

/-- How many are taken. -/
def took (m n most : Nat) (ended : Bool) : Nat := min m (if ended then 0 else most - n)

theorem took_le (m n most : Nat) (ended : Bool) : took m n most ended ≤ m := by unfold took; omega
theorem took_room {m n most : Nat} {ended : Bool} (h : n ≤ most) : n + took m n most ended ≤ most := by unfold took; split <;> omega

theorem took_int (m n most : Nat) (ended : Bool) (hn : n ≤ most) : (if roomOf n most ended < (m : Int) then roomOf n most ended else (m : Int)) = (took m n most ended : Int) := by
  unfold roomOf took
  cases ended
  · simp only [Bool.false_eq_true, if_false]; split <;> omega
  · simp only [if_true]; split <;> omega

/-- Behind i of them. -/
def PutInv (w : World) (b : Nat) (F : List Nat) (xs ys : List Int) (most : Nat) (ended : Bool) (i : Nat) (w' : World) : Prop :=
  ∃ F', IsQ w' b F' (xs ++ ys.take i) most ended ∧ Keeps F w w' ∧ ∀ k, k ∈ F' → k ∈ F ∨ w.heap.size ≤ k

/-- The queue with one thing more in its ring. -/
theorem IsQ.put {w w' : World} {b r first L : Nat} {xs : List Int} {most : Nat} {ended : Bool} {ring : Array Value} {y : Int} (hL : xs.length < L) (hLm : L ≤ most) (h5 : most ≤ 65536) (hf : first < L) (hrb : r ≠ b)
    (hb : w.heap[b]? = some (.cells #[.slice (some ⟨r, 0, none⟩) L L, .int .i64 first, .int .i64 xs.length, .int .i64 most, .bool ended] 104 (0, 0)))
    (hr : w.heap[r]? = some (.cells ring 5 (0, 0))) (hs : ring.size = L) (ha : ∀ i, i < xs.length → ring[(first + i) % L]? = some ((Value.int .u8 (xs.getD i 0))))
    (hw : w' = (w.setCell ⟨r, (first + xs.length) % L, none⟩ ((Value.int .u8 (y)))).setCell ⟨b, 2, none⟩ (.int .i64 ((xs.length : Int) + 1))) :
    IsQ w' b [b, r] (xs ++ [y]) most ended := by
  subst hw
  have hq : (first + xs.length) % L < L := Nat.mod_lt _ (by omega)
  refine ⟨_, first, L, some r, ?_, rfl, by simp; omega, hLm, by simp; omega, by omega, h5, .inr ⟨r, ring.setIfInBounds ((first + xs.length) % L) ((Value.int .u8 (y))), rfl, by omega, hf, hrb, rfl, ?_, by simpa using hs, fun i hi => ?_⟩⟩
  · have h1 := (heap_setCell_other w ⟨r, (first + xs.length) % L, none⟩ b ((Value.int .u8 (y))) (by show b ≠ r; omega)).trans hb
    have h2 := heap_setCell_same _ b 2 _ _ (.int .i64 ((xs.length : Int) + 1)) h1
    rw [h2]
    simp
  · exact (heap_setCell_other _ _ _ _ (show r ≠ b from hrb)).trans (heap_setCell_same w r _ _ _ _ hr)
  · by_cases hlt : i < xs.length
    · rw [Array.getElem?_setIfInBounds_ne (by have := mod_ne (first := first) hlt hL; omega), ha i hlt]
      simp [List.getD_eq_getElem?_getD, List.getElem?_append_left hlt]
    · have hi' : i = xs.length := by simp at hi; omega
      subst hi'
      rw [Array.getElem?_setIfInBounds_self_of_lt (by omega)]
      simp

set_option maxRecDepth 100000 in
set_option maxHeartbeats 2000000 in
theorem q_put {w : World} {b : Nat} {F : List Nat} {xs ys : List Int} {most : Nat} {ended : Bool} (h : IsQ w b F xs most ended) (xa : Option Addr) (m cap : Nat) (hy : GivenIn w F xa m cap ys) :
    Calls Tryd.prog 44 #[.pointer (some ⟨b, 0, none⟩), .slice xa m cap] w fun e w' => e = .returned (.int .i64 (took m xs.length most ended)) ∧ PutInv w b F xs ys most ended (took m xs.length most ended) w' := by
  obtain ⟨hmc, hcm, hym, hcells⟩ := hy
  have hroom := h.room
  have hint := took_int m xs.length most ended hroom.1
  obtain ⟨k, hk⟩ : ∃ k, took m xs.length most ended = k := ⟨_, rfl⟩
  have hkm : k ≤ m := hk ▸ took_le _ _ _ _
  have hkr : xs.length + k ≤ most := hk ▸ took_room hroom.1
  have hmost := hroom.2.2
  rw [hk] at hint ⊢
  have hrm := q_room h
  unfold maxLen at hcm
  have HI := Lib.hid hint
  have HR : Hid _ := hrm
  have HY := Lib.hid hym
  have HC : Hid _ := hcells
  clear hint hrm hk hym hcells hroom
  obtain ⟨ro, hro⟩ : ∃ ro, roomOf xs.length most ended = ro := ⟨_, rfl⟩
  rw [hro] at HI HR
  clear hro
  go_enter Tryd.func44, Tryd.ntmps44
  go_upto_region 1 with fail
  go_cut [5] (fun v5 w' => v5 = .int .i64 k ∧ ∃ kk, w' = w.drewN kk)
  case first =>
    go_wp2_with (go_at_call 50; refine Calls.mono HR.out ?_; rintro e w' ⟨rfl, kk, rfl⟩)
    all_goals (go_meet; exact ⟨congrArg (Value.int .i64) (by have h := HI.out; split at h <;> omega), _, rfl⟩)
  case rest =>
  obtain ⟨rfl, kk, rfl⟩ := hcut
  go_wp2_with fail
  go_loopg [17] k (fun g v17 wr => ∃ i : Nat, i + g = k ∧ v17 = .int .i64 i ∧ PutInv w b F xs ys most ended i wr)
  case atStart => exact ⟨0, by omega, rfl, F, by simpa using h.same (w' := w.drewN kk) (fun _ _ => rfl), ⟨rfl, rfl, rfl, Nat.le_refl _, fun _ _ _ => rfl⟩, fun k hk => .inl hk⟩
  case round =>
    obtain ⟨i, hi, rfl, hinv⟩ := hrel
    by_cases hlt : i < k
    · obtain ⟨F', hq, hkeep, hsub⟩ := hinv
      obtain ⟨xb, xo, rfl, hxlt, hxF, hxc⟩ := HC.out i (by omega)
      have hcw : wr.cell? ⟨xb, xo + i, none⟩ = some ((Value.int .u8 (ys.getD i 0))) := (World.cell?_of_block (a := ⟨xb, xo + i, none⟩) (hkeep.block xb hxlt hxF)).trans hxc
      have hlen : (xs ++ ys.take i).length = xs.length + i := by have := HY.out; simp; omega
      have hgrow := q_grow hq (by omega)
      have hsnoc : xs ++ ys.take (i + 1) = (xs ++ ys.take i) ++ [ys.getD i 0] := by
        have hi2 : i < ys.length := by have := HY.out; omega
        rw [List.take_succ_eq_append_getElem hi2, List.append_assoc]
        simp [List.getElem?_eq_getElem hi2]
      obtain ⟨t, ht⟩ : ∃ t, ys.getD i 0 = t := ⟨_, rfl⟩
      rw [ht] at hcw hsnoc
      obtain ⟨zs, hzs⟩ : ∃ zs, xs ++ ys.take i = zs := ⟨_, rfl⟩
      rw [hzs] at hgrow hsnoc hlen
      obtain ⟨n, hn⟩ : ∃ n, zs.length = n := ⟨_, rfl⟩
      rw [hn] at hlen
      have HS := Lib.hid hsnoc
      have HN := Lib.hid hn
      have HL := Lib.hid hlen
      have hnk : n < most := by omega
      have HG : Hid _ := hgrow
      have HK := Lib.hid hkeep
      have HSUB : Hid _ := hsub
      have hne : ys.length = m := HY.out
      clear ht hzs hsnoc hlen hgrow hq hxc hxlt hxF hkeep hsub hn hne
      go_wp2_with fail
      refine Calls.mono HG.out ?_
      rintro e w1 ⟨rfl, first, r, L, ring, a1, a2, a3, a4, hb, hr, a5, a6, hk1, hrF⟩
      clear HG
      rw [HN.out] at a1
      obtain ⟨q, hqq⟩ : ∃ q, (first + n) % L = q := ⟨_, rfl⟩
      have hL0 : 0 < L := by omega
      have hqL : q < L := hqq ▸ Nat.mod_lt _ hL0
      have e1 : IntKind.i64.wrap ((first : Int) + (n : Int)) = (first : Int) + (n : Int) := IntWalk.i64_in _ (by omega)
      have e2 := tmod_nat first n L q hqq
      have hLn : ¬ L = 0 := by omega
      have hLi : ¬ (L : Int) = 0 := by omega
      have hl : (0 : Int) ≤ (q : Int) := Int.natCast_nonneg _
      have hl2 : (q : Int) < (L : Int) := by omega
      have g0 : w1.cell? ⟨b, 0, none⟩ = some (.slice (some ⟨r, 0, none⟩) L L) := cell_at hb 0
      have g1 : w1.cell? ⟨b, 1, none⟩ = some (.int .i64 first) := cell_at hb 1
      have g2 : w1.cell? ⟨b, 2, none⟩ = some (.int .i64 n) := by have := cell_at hb 2; rw [HN.out] at this; exact this
      have f2 : w1.frozen? ⟨b, 2, none⟩ = false := frozen_of_row _ _ _ _ _ hb
      have hrq : w1.cell? ⟨r, q, none⟩ = some ring[q] := (cell_at hr q).trans (Array.getElem?_eq_getElem (by omega))
      have fq : w1.frozen? ⟨r, q, none⟩ = false := frozen_of_row _ _ _ _ _ hr
      obtain ⟨old, hold⟩ : ∃ old, ring[q] = old := ⟨_, rfl⟩
      rw [hold] at hrq
      have HB := Lib.hid hb
      have HRR := Lib.hid hr
      have HQ := Lib.hid hqq
      have HA5 := Lib.hid a5
      have HA6 : Hid _ := a6
      have HK1 := Lib.hid hk1
      have HRF := Lib.hid hrF
      clear hb hr hqq a5 a6 hk1 hrF hold hcw
      go_wp2_with fail
      go_region
      go_wp2_with fail
      go_roundg (k - (i + 1))
      case measure => omega
      case rel =>
        refine ⟨i + 1, by omega, by go_num, [b, r], ?_, ?_, ?_⟩
        · have hb := HB.out
          have ha := HA6.out
          rw [HS.out]
          refine (IsQ.put (w := w1) (y := t) (by rw [HN.out]; exact a1) a2 hmost a3 a4 hb HRR.out HA5.out ha rfl).same (fun x hx => ?_)
          rw [HN.out, HQ.out]
          rfl
        · have hk0 := HK.out
          have hk1 := HK1.out
          have hs := HSUB.out
          refine (hk0.trans hk1 hs).trans (F' := [b, r]) ⟨rfl, rfl, rfl, by simp, fun x hx hxn => ?_⟩ ?_
          · have h1 : x ≠ b := fun e => hxn (by simp [e])
            have h2 : x ≠ r := fun e => hxn (by simp [e])
            exact (heap_setCell_other _ _ _ _ (show x ≠ b from h1)).trans (heap_setCell_other _ _ _ _ (show x ≠ r from h2))
          · intro x hx
            rcases List.mem_cons.1 hx with rfl | hx
            · exact .inl h.mem
            · obtain rfl : x = r := by simpa using hx
              rcases HRF.out with hr | hr
              · exact hs _ hr
              · exact .inr (Nat.le_trans hk0.size hr)
        · intro x hx
          rcases List.mem_cons.1 hx with rfl | hx
          · exact .inl h.mem
          · obtain rfl : x = r := by simpa using hx
            have hs := HSUB.out
            rcases HRF.out with hr | hr
            · exact hs _ hr
            · exact .inr (Nat.le_trans HK.out.size hr)
    · obtain rfl : i = k := by omega
      go_wp2_with fail
      go_ret
      exact ⟨rfl, hinv⟩

/-- New, of a room that may be. -/
theorem q_new (room : Int) (h1 : 1 ≤ room) (h2 : room ≤ 65536) (w : World) :
    Calls Tryd.prog 42 #[.int .i64 room] w fun e w' => ∃ b, e = .returned (.tuple #[.pointer (some ⟨b, 0, none⟩), .int .i64 0]) ∧ IsQ w' b [b] [] room.toNat false ∧ Below w.heap.size w w' ∧ w.heap.size ≤ b ∧ b < w'.heap.size := by
  refine (new_ok room h1 h2 w).mono ?_
  rintro e w' ⟨rfl, rfl⟩
  have hq := isQ_new w room.toNat (by omega) (by omega)
  rw [show ((room.toNat : Nat) : Int) = room from by omega] at hq
  exact ⟨_, rfl, hq, (Below.refl _ _).alloc (Nat.le_refl _) _, Nat.le_refl _, by simp⟩

theorem q_end {w : World} {b : Nat} {F : List Nat} {xs : List Int} {most : Nat} {ended : Bool} (h : IsQ w b F xs most ended) :
    Calls Tryd.prog 47 #[.pointer (some ⟨b, 0, none⟩)] w fun e w' => e = .returned (.tuple #[]) ∧ IsQ w' b F xs most true ∧ Keeps F w w' := by
  have hm := h.mem
  obtain ⟨v, first, L, rb, hb, rfl, h1, h2, h3, h4, h5, hc⟩ := h
  refine (end_at b ended w (cell_at hb 4) (frozen_of_row _ _ _ _ _ hb)).mono ?_
  rintro e w' ⟨rfl, rfl⟩
  refine ⟨rfl, ⟨v, first, L, rb, heap_setCell_same w b 4 _ _ _ hb, rfl, h1, h2, h3, h4, h5, ?_⟩, ⟨rfl, rfl, rfl, by simp, fun k _ hk => heap_setCell_other _ _ _ _ (fun e => hk (by rw [e]; exact hm))⟩⟩
  rcases hc with hc | ⟨r, ring, rfl, a1, a2, a3, a4, hr, a5, a6⟩
  · exact .inl hc
  · exact .inr ⟨r, ring, rfl, a1, a2, a3, a4, (heap_setCell_other _ _ _ _ (show r ≠ b from a3)).trans hr, a5, a6⟩

theorem end_nil (w : World) : Calls Tryd.prog 47 #[.pointer none] w fun e w' => e = .returned (.tuple #[]) ∧ w = w' := by
  go_enter Tryd.func47, Tryd.ntmps47
  go_wp2
  go_end0
  exact ⟨rfl, rfl⟩

theorem over_nil (w : World) : Calls Tryd.prog 48 #[.pointer none] w fun e w' => e = .returned (.bool false) ∧ w = w' := by
  go_enter Tryd.func48, Tryd.ntmps48
  go_wp2
  go_ret
  exact ⟨rfl, rfl⟩

/-- What is owned stays where the queue's blocks alone are written, if none of these is its row. -/
theorem own_keeps {w w' : World} {F : List Nat} {base : Nat} {E : TypeId} {v : Value} {n : Nat} {zs : List Value} (h : w.ownsRow base E 1 v n zs) (hk : Keeps F w w') (hd : ∀ k, v.ownBlock = some k → k ∉ F) : w'.ownsRow base E 1 v n zs := by
  obtain ⟨hl, hn | ⟨g, cap, cur, rfl, hb, hg, rest⟩⟩ := h
  · exact ⟨hl, .inl hn⟩
  · exact ⟨hl, .inr ⟨g, cap, cur, rfl, hb, (hk.block g (Array.getElem?_eq_some_iff.1 hg).1 (hd g rfl)).trans hg, rest⟩⟩

theorem own_below {w w' : World} {B : Nat} {base : Nat} {E : TypeId} {v : Value} {n : Nat} {zs : List Value} (h : w.ownsRow base E 1 v n zs) (hb : Below B w w') (hB : w.heap.size ≤ B) : w'.ownsRow base E 1 v n zs :=
  own_keeps h (Keeps.of_below (hb.mono hB) []) (fun _ _ h => by cases h)

/-- The same two, with what comes under names of the caller's. -/
theorem q_put_at {w : World} {b : Nat} {F : List Nat} {xs ys : List Int} {most : Nat} {ended : Bool} (h : IsQ w b F xs most ended) (xa : Option Addr) (m cap : Nat) (hy : GivenIn w F xa m cap ys)
    (k : Nat) (zs : List Int) (hk : took m xs.length most ended = k) (hz : xs ++ ys.take k = zs) :
    Calls Tryd.prog 44 #[.pointer (some ⟨b, 0, none⟩), .slice xa m cap] w fun e w' => e = .returned (.int .i64 k) ∧ ∃ F', IsQ w' b F' zs most ended ∧ Keeps F w w' ∧ ∀ k, k ∈ F' → k ∈ F ∨ w.heap.size ≤ k := by
  subst hk
  subst hz
  exact q_put h xa m cap hy

theorem q_take_at {w : World} {b : Nat} {F : List Nat} {xs : List Int} {most : Nat} {ended : Bool} (h : IsQ w b F xs most ended) (arg : Int)
    (k : Nat) (ts ds : List Int) (hk : count arg xs.length = k) (ht : xs.take k = ts) (hd : xs.drop k = ds) :
    Calls Tryd.prog 46 #[.pointer (some ⟨b, 0, none⟩), .int .i64 arg] w fun e w' => ∃ sp sc, e = .returned (.slice sp k sc) ∧ w'.ownsRow w.heap.size 5 1 (.slice sp k sc) k (ts.map fun x => (Value.int .u8 (x))) ∧ IsQ w' b F ds most ended ∧ Keeps F w w' := by
  subst hk
  subst ht
  subst hd
  refine (q_take h arg).mono ?_
  rintro e w' ⟨v, rfl, hown, hr⟩
  obtain ⟨sp, sc, rfl⟩ := own_form hown
  exact ⟨sp, sc, rfl, hown, hr⟩

theorem q_peek_at {w : World} {b : Nat} {F : List Nat} {xs : List Int} {most : Nat} {ended : Bool} (h : IsQ w b F xs most ended) (arg : Int)
    (k : Nat) (ts : List Int) (hk : count arg xs.length = k) (ht : xs.take k = ts) :
    Calls Tryd.prog 60 #[.pointer (some ⟨b, 0, none⟩), .int .i64 arg] w fun e w' => ∃ sp sc, e = .returned (.slice sp k sc) ∧ w'.ownsRow w.heap.size 5 1 (.slice sp k sc) k (ts.map fun x => (Value.int .u8 (x))) ∧ IsQ w' b F xs most ended ∧ Below w.heap.size w w' := by
  subst hk
  subst ht
  refine (q_peek h arg).mono ?_
  rintro e w' ⟨v, rfl, hown, hbel⟩
  obtain ⟨sp, sc, rfl⟩ := own_form hown
  exact ⟨sp, sc, rfl, hown, h.below hbel (Nat.le_refl _), hbel⟩

theorem q_room_at {w : World} {b : Nat} {F : List Nat} {xs : List Int} {most : Nat} {ended : Bool} (h : IsQ w b F xs most ended) (r : Int) (hr : roomOf xs.length most ended = r) :
    Calls Tryd.prog 50 #[.pointer (some ⟨b, 0, none⟩)] w fun e w' => e = .returned (.int .i64 r) ∧ IsQ w' b F xs most ended ∧ ∃ k, w' = w.drewN k := by
  subst hr
  refine (q_room h).mono ?_
  rintro e w' ⟨rfl, k, rfl⟩
  exact ⟨rfl, h.same (fun _ _ => rfl), k, rfl⟩

theorem q_len_at {w : World} {b : Nat} {F : List Nat} {xs : List Int} {most : Nat} {ended : Bool} (h : IsQ w b F xs most ended) (n : Nat) (hn : xs.length = n) :
    Calls Tryd.prog 49 #[.pointer (some ⟨b, 0, none⟩)] w fun e w' => e = .returned (.int .i64 n) ∧ w = w' := by
  subst hn
  exact q_len h

theorem q_over_at {w : World} {b : Nat} {F : List Nat} {xs : List Int} {most : Nat} {ended : Bool} (h : IsQ w b F xs most ended) (o : Bool) (ho : (ended && decide (xs.length = 0)) = o) :
    Calls Tryd.prog 48 #[.pointer (some ⟨b, 0, none⟩)] w fun e w' => e = .returned (.bool o) ∧ w = w' := by
  subst ho
  exact q_over h

theorem below_drewN {w0 w : World} {B : Nat} (h : Below B w0 w) (k : Nat) : Below B w0 (w.drewN k) := ⟨h.os, h.tape, h.output, h.size, h.block⟩

end Go.Proofs.YthpdphbppapkhaaDoor.qb
