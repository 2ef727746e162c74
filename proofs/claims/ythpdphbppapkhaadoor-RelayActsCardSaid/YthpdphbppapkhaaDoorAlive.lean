/-
  The walk of 'alive' over a line, and what the pty statements share. Condition: the table 'other' reads as the program's text lays it.
-/
import Derived.Test.YthpdphbppapkhaaDoorLine
import Derived.Deep.Slices
import Derived.Deep.Strs
namespace Go.Proofs.YthpdphbppapkhaaDoor
open Go.RowKit qb

/-- An int64. -/
def I64 (a : Int) : Prop := -9223372036854775808 ≤ a ∧ a ≤ 9223372036854775807

theorem i64_of {a : Int} (h : (Lit.int .i64 a).wf = true) : I64 a := by
  have := bounds_i64 h
  exact this

theorem ret_num {k : IntKind} {a b : Int} (h : a = b) : Ending.returned (.int k a) = .returned (.int k b) := by rw [h]
theorem ret_bool {a b : Bool} (h : a = b) : Ending.returned (.bool a) = .returned (.bool b) := by rw [h]

/-- A slice of bytes that the caller has just built, handed to Write. -/
theorem given_new {w : World} {p : Nat} {F : List Nat} {n : Nat} {s : Line} (h : IsP w p F n s) (ys : List Int) (k : Nat) (hn : ys.length = k) (hm : k ≤ maxLen) :
    IsP (w.alloc (.cells (ys.map fun x => Value.int .u8 x).toArray 5)) p F n s ∧ qb.GivenIn (w.alloc (.cells (ys.map fun x => Value.int .u8 x).toArray 5)) F (some ⟨w.heap.size, 0, none⟩) k k ys := by
  refine ⟨h.below ((Below.refl _ _).alloc (Nat.le_refl _) _) (Nat.le_refl _), Nat.le_refl _, hm, hn, fun i hi => ⟨w.heap.size, 0, rfl, by simp, fun hk => by have := h.lt _ hk; omega, ?_⟩⟩
  rw [Nat.zero_add, World.cell?_alloc_new]
  simp [List.getElem?_eq_getElem (show i < ys.length by omega)]

/-- All of the line's blocks are new, and nothing old has turned. -/
def Fresh (B : Nat) (w w' : World) (F : List Nat) : Prop := Below B w w' ∧ ∀ k, k ∈ F → B ≤ k

theorem Fresh.keeps {B : Nat} {w w1 w2 : World} {F F' : List Nat} (h : Fresh B w w1 F) (hB : B ≤ w1.heap.size) (hk : Keeps F w1 w2) (hs : ∀ k, k ∈ F' → k ∈ F ∨ w1.heap.size ≤ k) : Fresh B w w2 F' :=
  ⟨hk.below h.1 h.2 hB, fun k hk' => by
    rcases hs k hk' with h' | h'
    · exact h.2 k h'
    · omega⟩

theorem Fresh.alloc {B : Nat} {w w1 : World} {F : List Nat} (h : Fresh B w w1 F) (hB : B ≤ w1.heap.size) (o : Obj) : Fresh B w (w1.alloc o) F := ⟨h.1.alloc hB _, h.2⟩

set_option maxHeartbeats 1000000 in
theorem alive_any (w : World) (ho : Oth w) : Calls Tryd.prog 15 #[] w fun e w' => e = .returned (.bool true) ∧ Below w.heap.size w w' := by
  have HO := Lib.hid ho
  clear ho
  go_enter Tryd.func15, Tryd.ntmps15
  go_wp2_with fail
  refine (p_new 3 (by omega) (by omega) w HO.out).mono ?_
  rintro e w1 ⟨p, F, rfl, hp, hb1, hF1⟩
  obtain ⟨hp1, hg1⟩ := given_new hp [1, 2, 3, 4] 4 rfl (by decide)
  have hf1 : Fresh w.heap.size w (w1.alloc (.cells ([1, 2, 3, 4].map fun x => Value.int .u8 x).toArray 5)) F := Fresh.alloc ⟨hb1, hF1⟩ hb1.size _
  have hs1 := hf1.1.size
  clear hp hb1 hF1
  go_wp2_with fail
  refine (p_write hp1 true 0 rfl _ 4 4 _ hg1 3 rfl).mono ?_
  rintro e w2 ⟨rfl, F2, hp2, hk2, hs2⟩
  have hf2 := hf1.keeps hs1 hk2 hs2
  clear hp1 hg1 hf1 hs1 hk2 hs2
  go_wp2_with fail
  refine (p_read hp2 true 1 rfl 2 2 rfl).mono ?_
  rintro e w3 ⟨sp, sc, rfl, hown, hp3, hk3⟩
  have hf3 := hf2.keeps hf2.1.size hk3 (fun _ h => .inl h)
  have hcv : (convert 22 9 (.slice sp 2 sc)).run Tryd.prog w3 = .ok (.string ⟨#[1, 2]⟩) w3 := conv_own hown
  clear hown hp2 hf2 hk3
  go_wp2_with fail
  refine (p_hang hp3 true 0 rfl).mono ?_
  rintro e w4 ⟨rfl, hp4, hk4⟩
  have hf4 := hf3.keeps hf3.1.size hk4 (fun _ h => .inl h)
  clear hcv hp3 hf3 hk4
  go_wp2_with fail
  refine (p_over hp4 true 1 rfl false rfl).mono ?_
  rintro e w5 ⟨rfl, rfl⟩
  go_wp2_with fail
  refine (p_read hp4 true 1 rfl 9 1 rfl).mono ?_
  rintro e w5 ⟨sp5, sc5, rfl, hown5, hp5, hk5⟩
  have hf5 := hf4.keeps hf4.1.size hk5 (fun _ h => .inl h)
  have hcv : (convert 22 9 (.slice sp5 1 sc5)).run Tryd.prog w5 = .ok (.string ⟨#[3]⟩) w5 := conv_own hown5
  clear hown5 hp4 hf4 hk5
  go_wp2_with fail
  refine (p_over hp5 true 1 rfl true rfl).mono ?_
  rintro e w6 ⟨rfl, rfl⟩
  go_wp2_with fail
  go_ret
  exact ⟨rfl, hf5.1⟩

end Go.Proofs.YthpdphbppapkhaaDoor
