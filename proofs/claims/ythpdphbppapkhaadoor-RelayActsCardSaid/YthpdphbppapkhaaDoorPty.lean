/-
  A line in memory (two queues of bytes behind a struct), and the walks of its calls: New, Write, Read, Hang, Over, Waits, Room. Condition: the table 'other' reads as the program's text lays it.
-/
import Derived.Test.YthpdphbppapkhaaDoorPut
namespace Go.Proofs.YthpdphbppapkhaaDoor
open Go.RowKit qb

/-- The table of the sides, in memory. -/
def Oth (w : World) : Prop := w.cell? ⟨0, 0, none⟩ = some (.int .i64 1) ∧ w.cell? ⟨0, 1, none⟩ = some (.int .i64 0)

theorem Oth.pos {w : World} (h : Oth w) : 0 < w.heap.size := World.block_lt_of_cell? w _ h.1

theorem Oth.keeps {w w' : World} {F : List Nat} (h : Oth w) (hk : Keeps F w w') (h0 : 0 ∉ F) : Oth w' := by
  have hb := hk.block 0 h.pos h0
  unfold Oth World.cell? at *
  simpa [hb] using h

theorem Oth.below {w w' : World} {B : Nat} (h : Oth w) (hb : Below B w w') (hB : w.heap.size ≤ B) : Oth w' := h.keeps (Keeps.of_below (hb.mono hB) []) (by simp)

/-- A side as a number. -/
def sd (j : Bool) : Int := if j then 1 else 0

/-- What lies in a line: what comes to side 0, to side 1, and whether no more comes. -/
structure Line where
  x0 : List Int
  x1 : List Int
  e0 : Bool
  e1 : Bool

def Line.x (s : Line) (j : Bool) : List Int := if j then s.x1 else s.x0
def Line.e (s : Line) (j : Bool) : Bool := if j then s.e1 else s.e0
def Line.set (s : Line) (j : Bool) (l : List Int) (e : Bool) : Line := if j then { s with x1 := l, e1 := e } else { s with x0 := l, e0 := e }

/-- Block p is a line; F: all its blocks. -/
def IsP (w : World) (p : Nat) (F : List Nat) (n : Nat) (s : Line) : Prop :=
  ∃ b0 b1 F0 F1, F = p :: (F0 ++ F1) ∧ w.heap[p]? = some (.cells #[.pointer (some ⟨b0, 0, none⟩), .pointer (some ⟨b1, 0, none⟩)] 87 (0, 0)) ∧ IsQ w b0 F0 s.x0 n s.e0 ∧ IsQ w b1 F1 s.x1 n s.e1 ∧
    (∀ k, k ∈ F0 → k ∉ F1) ∧ p ∉ F0 ∧ p ∉ F1 ∧ Oth w ∧ 0 ∉ F

theorem IsP.lt {w : World} {p : Nat} {F : List Nat} {n : Nat} {s : Line} (h : IsP w p F n s) : ∀ k, k ∈ F → k < w.heap.size := by
  obtain ⟨b0, b1, F0, F1, rfl, hp, h0, h1, _⟩ := h
  intro k hk
  rcases List.mem_cons.1 hk with rfl | hk
  · exact (Array.getElem?_eq_some_iff.1 hp).1
  · rcases List.mem_append.1 hk with hk | hk
    · exact h0.lt k hk
    · exact h1.lt k hk

theorem IsP.oth {w : World} {p : Nat} {F : List Nat} {n : Nat} {s : Line} (h : IsP w p F n s) : Oth w := by
  obtain ⟨b0, b1, F0, F1, _, _, _, _, _, _, _, h, _⟩ := h
  exact h

theorem IsP.zero {w : World} {p : Nat} {F : List Nat} {n : Nat} {s : Line} (h : IsP w p F n s) : 0 ∉ F := by
  obtain ⟨b0, b1, F0, F1, _, _, _, _, _, _, _, _, h⟩ := h
  exact h

theorem IsP.room {w : World} {p : Nat} {F : List Nat} {n : Nat} {s : Line} (h : IsP w p F n s) (j : Bool) : (s.x j).length ≤ n ∧ 1 ≤ n ∧ n ≤ 65536 := by
  obtain ⟨b0, b1, F0, F1, _, _, h0, h1, _⟩ := h
  cases j
  · exact h0.room
  · exact h1.room

theorem IsP.same {w w' : World} {p : Nat} {F : List Nat} {n : Nat} {s : Line} (h : IsP w p F n s) (hs : ∀ k, k ∈ F → w'.heap[k]? = w.heap[k]?) (hz : w'.heap[0]? = w.heap[0]?) : IsP w' p F n s := by
  obtain ⟨b0, b1, F0, F1, rfl, hp, h0, h1, hd, hp0, hp1, ho, hz0⟩ := h
  refine ⟨b0, b1, F0, F1, rfl, (hs p (by simp)).trans hp, h0.same (fun k hk => hs k (by simp [hk])), h1.same (fun k hk => hs k (by simp [hk])), hd, hp0, hp1, ?_, hz0⟩
  unfold Oth World.cell? at *
  simpa [hz] using ho

theorem IsP.keeps {w w' : World} {p : Nat} {F G : List Nat} {n : Nat} {s : Line} (h : IsP w p F n s) (hk : Keeps G w w') (hd : ∀ k, k ∈ F → k ∉ G) (h0 : 0 ∉ G) : IsP w' p F n s :=
  h.same (fun k hm => hk.block k (h.lt k hm) (hd k hm)) (hk.block 0 h.oth.pos h0)

theorem IsP.below {w w' : World} {p : Nat} {F : List Nat} {n : Nat} {s : Line} (h : IsP w p F n s) {B : Nat} (hb : Below B w w') (hB : w.heap.size ≤ B) : IsP w' p F n s :=
  h.keeps (Keeps.of_below (hb.mono hB) []) (by simp) (by simp)

/-! ### way and from -/
theorem way_at {w : World} {p b0 b1 : Nat} (h : w.heap[p]? = some (.cells #[.pointer (some ⟨b0, 0, none⟩), .pointer (some ⟨b1, 0, none⟩)] 87 (0, 0))) (j : Bool) :
    Calls Tryd.prog 45 #[.pointer (some ⟨p, 0, none⟩), .int .i64 (sd j)] w fun e w' => e = .returned (.pointer (some ⟨if j then b1 else b0, 0, none⟩)) ∧ w = w' := by
  have c0 : w.cell? ⟨p, 0, none⟩ = some (.pointer (some ⟨b0, 0, none⟩)) := cell_at h 0
  have c1 : w.cell? ⟨p, 1, none⟩ = some (.pointer (some ⟨b1, 0, none⟩)) := cell_at h 1
  clear h
  cases j
  · show Calls Tryd.prog 45 #[.pointer (some ⟨p, 0, none⟩), .int .i64 0] w _
    go_enter Tryd.func45, Tryd.ntmps45
    go_wp2
    go_ret
    exact ⟨rfl, rfl⟩
  · show Calls Tryd.prog 45 #[.pointer (some ⟨p, 0, none⟩), .int .i64 1] w _
    go_enter Tryd.func45, Tryd.ntmps45
    go_wp2
    go_ret
    exact ⟨rfl, rfl⟩

theorem way_bad (pt : Option Addr) (side : Int) (h : pt = none ∨ side < 0 ∨ 2 ≤ side) (w : World) :
    Calls Tryd.prog 45 #[.pointer pt, .int .i64 side] w fun e w' => e = .returned (.pointer none) ∧ w = w' := by
  cases pt with
  | none =>
    go_enter Tryd.func45, Tryd.ntmps45
    go_wp2
    go_ret
    exact ⟨rfl, rfl⟩
  | some a =>
    rcases h with h | h | h
    · cases h
    · go_enter Tryd.func45, Tryd.ntmps45
      go_wp2
      go_ret
      exact ⟨rfl, rfl⟩
    · have h' : ¬ side < 0 := by omega
      go_enter Tryd.func45, Tryd.ntmps45
      go_wp2
      go_ret
      exact ⟨rfl, rfl⟩

theorem from_at {w : World} {p b0 b1 : Nat} (h : w.heap[p]? = some (.cells #[.pointer (some ⟨b0, 0, none⟩), .pointer (some ⟨b1, 0, none⟩)] 87 (0, 0))) (ho : Oth w) (j : Bool) :
    Calls Tryd.prog 43 #[.pointer (some ⟨p, 0, none⟩), .int .i64 (sd j)] w fun e w' => e = .returned (.pointer (some ⟨if j then b0 else b1, 0, none⟩)) ∧ w = w' := by
  obtain ⟨o0, o1⟩ := ho
  cases j
  · show Calls Tryd.prog 43 #[.pointer (some ⟨p, 0, none⟩), .int .i64 0] w _
    have hw := way_at h true
    have HW : Hid _ := hw
    clear hw h
    go_enter Tryd.func43, Tryd.ntmps43
    go_wp2_with fail
    refine Calls.mono HW.out ?_
    rintro e w' ⟨rfl, rfl⟩
    go_wp2_with fail
    go_ret
    exact ⟨rfl, rfl⟩
  · show Calls Tryd.prog 43 #[.pointer (some ⟨p, 0, none⟩), .int .i64 1] w _
    have hw := way_at h false
    have HW : Hid _ := hw
    clear hw h
    go_enter Tryd.func43, Tryd.ntmps43
    go_wp2_with fail
    refine Calls.mono HW.out ?_
    rintro e w' ⟨rfl, rfl⟩
    go_wp2_with fail
    go_ret
    exact ⟨rfl, rfl⟩

theorem from_bad (pt : Option Addr) (side : Int) (h : pt = none ∨ side < 0 ∨ 2 ≤ side) (w : World) (ho : Oth w) :
    Calls Tryd.prog 43 #[.pointer pt, .int .i64 side] w fun e w' => e = .returned (.pointer none) ∧ w = w' := by
  obtain ⟨o0, o1⟩ := ho
  by_cases hs : side < 0
  · go_enter Tryd.func43, Tryd.ntmps43
    go_wp2
    go_ret
    exact ⟨rfl, rfl⟩
  · by_cases hs2 : 2 ≤ side
    · go_enter Tryd.func43, Tryd.ntmps43
      go_wp2
      go_ret
      exact ⟨rfl, rfl⟩
    · have hp : pt = none := by
        rcases h with h | h | h
        · exact h
        · exact absurd h hs
        · exact absurd h hs2
      subst hp
      have h01 : side = 0 ∨ side = 1 := by omega
      rcases h01 with rfl | rfl
      · go_enter Tryd.func43, Tryd.ntmps43
        go_wp2_with fail
        refine (way_bad none 1 (.inl rfl) w).mono ?_
        rintro e w' ⟨rfl, rfl⟩
        go_wp2_with fail
        go_ret
        exact ⟨rfl, rfl⟩
      · go_enter Tryd.func43, Tryd.ntmps43
        go_wp2_with fail
        refine (way_bad none 0 (.inl rfl) w).mono ?_
        rintro e w' ⟨rfl, rfl⟩
        go_wp2_with fail
        go_ret
        exact ⟨rfl, rfl⟩

end Go.Proofs.YthpdphbppapkhaaDoor
