/-
  Bytes: whether one is plain, its octal digits; a builder written to. No condition.
-/
import Derived.Test.YthjaemocnlhkdaaShelf
import Derived.Test.YthjaemocnlhkdaaRows
import Derived.WalkKit
import Derived.WalkSpells
import Derived.WalkLawsBesides
import Derived.Lib.Hide
import Derived.Deep.LoopGhost
import Derived.Deep.DeepCutAuto
import Derived.Deep.CutBlock
import Derived.Laws.BytesArg
namespace Go.Proofs.Ythjaemocnlhkdaa
open Go.RowKit

/-- Does a byte stand for itself between quotes? -/
def plain (c : UInt8) : Bool := decide (32 ≤ c.toNat) && (decide (c.toNat ≤ 126) && !([34, 35, 36, 59, 91, 92, 93, 123, 125].contains c.toNat))

/-- What holds of all 256 bytes holds of each. -/
theorem each_byte {p : UInt8 → Bool} (h : ((List.range 256).all fun n => p (UInt8.ofNat n)) = true) (c : UInt8) : p c = true := by
  have := List.all_eq_true.1 h c.toNat (List.mem_range.2 c.toNat_lt)
  simpa using this

theorem index_special (c : UInt8) : decide (Lib.indexByte [34, 35, 36, 59, 91, 92, 93, 123, 125] c < 0) = !([34, 35, 36, 59, 91, 92, 93, 123, 125].contains c.toNat) := by
  have := each_byte (p := fun c => decide (Lib.indexByte [34, 35, 36, 59, 91, 92, 93, 123, 125] c < 0) == !([34, 35, 36, 59, 91, 92, 93, 123, 125].contains c.toNat)) (by decide +kernel) c
  simpa using this

theorem toByte (c : UInt8) : ((c.toNat : Int).toNat).toUInt8 = c := by simp

theorem ret_bool {a b : Bool} (h : a = b) : Ending.returned (.bool a) = .returned (.bool b) := by rw [h]
theorem ret_str {a b : ByteArray} (h : a = b) : Ending.returned (.string a) = .returned (.string b) := by rw [h]

theorem plain_any (c : UInt8) (w : World) : Calls Try.prog 10 #[.int .u8 (c.toNat : Int)] w fun e w' => e = .returned (.bool (plain c)) ∧ w = w' := by
  have hi := Try.strings_IndexByte ⟨#[34, 35, 36, 59, 91, 92, 93, 123, 125]⟩ (c.toNat : Int) w
  have he := index_special c
  rw [toByte] at hi
  obtain ⟨k, hk⟩ : ∃ k, Lib.indexByte [34, 35, 36, 59, 91, 92, 93, 123, 125] c = k := ⟨_, rfl⟩
  have hi' : Calls Try.prog 20 #[.string ⟨#[34, 35, 36, 59, 91, 92, 93, 123, 125]⟩, .int .u8 (c.toNat : Int)] w fun e w' => e = .returned (.int .i64 k) ∧ w' = w := by rw [← hk]; exact hi
  have hp : plain c = (decide (32 ≤ c.toNat) && (decide (c.toNat ≤ 126) && decide (k < 0))) := by rw [← hk, he]; rfl
  rw [hp]
  obtain ⟨n, hn⟩ : ∃ n, c.toNat = n := ⟨_, rfl⟩
  rw [hn] at hi' ⊢
  have HI := Lib.hid hi'
  clear hi hi' hp hk he hn
  by_cases h1 : 32 ≤ n
  · by_cases h2 : n ≤ 126
    · go_enter Try.func10, Try.ntmps10
      go_wp2_with fail
      refine Calls.mono HI.out ?_
      rintro e w' ⟨rfl, rfl⟩
      go_wp2_with fail
      go_ret
      exact ⟨ret_bool (by simp [h1, h2]), rfl⟩
    · have h2' : ¬ (n : Int) ≤ 126 := by omega
      go_enter Try.func10, Try.ntmps10
      go_wp2_with fail
      go_ret
      exact ⟨ret_bool (by simp), rfl⟩
  · have h1' : ¬ (32 : Int) ≤ n := by omega
    go_enter Try.func10, Try.ntmps10
    go_wp2_with fail
    go_ret
    exact ⟨ret_bool (by simp), rfl⟩

theorem and7 (a : Nat) (h : a < 256) : bits BinOp.and IntKind.u8 (a : Int) 7 = (a : Int) % 8 := by
  have := each_byte (p := fun c => bits BinOp.and IntKind.u8 (c.toNat : Int) 7 == (c.toNat : Int) % 8) (by decide +kernel) (UInt8.ofNat a)
  simpa [Nat.mod_eq_of_lt h] using this

/-- A backslash and three digits. -/
def octal (c : UInt8) : List UInt8 := [92, 48 + c / 64, 48 + c / 8 % 8, 48 + c % 8]

/-- Bytes made by the call, as a text. -/
theorem conv_new (w : World) (xs : List Int) : (convert 22 9 (.slice (some ⟨w.heap.size, 0, none⟩) xs.length xs.length)).run Try.prog (w.alloc (.cells (xs.map fun x => Value.int .u8 x).toArray 5)) =
    .ok (.string (strOfNums xs)) (w.alloc (.cells (xs.map fun x => Value.int .u8 x).toArray 5)) :=
  run_convert_bytes_arg _ 22 5 Try.underlying22 Try.underlying5 w.heap.size 0 _ _ xs rfl (fun i hi => by
    rw [Nat.zero_add, World.cell?_alloc_new]
    simp [List.getElem?_eq_getElem hi]) 9 Try.underlying9

theorem octal_nums (c : UInt8) : strOfNums [92, 48 + (c.toNat : Int) / 64, 48 + (c.toNat : Int) / 8 % 8, 48 + (c.toNat : Int) % 8] = ⟨(octal c).toArray⟩ := by
  have h := each_byte (p := fun c => [92, 48 + (c.toNat : Int) / 64, 48 + (c.toNat : Int) / 8 % 8, 48 + (c.toNat : Int) % 8].map (fun n => UInt8.ofNat n.toNat) == octal c) (by decide +kernel) c
  simp only [beq_iff_eq] at h
  unfold strOfNums
  rw [h]

theorem octal_any (c : UInt8) (w : World) : Calls Try.prog 12 #[.int .u8 (c.toNat : Int)] w fun e w' => e = .returned (.string ⟨(octal c).toArray⟩) ∧ Below w.heap.size w w' := by
  rw [← octal_nums]
  have hcv := fun x y z : Int => conv_new w [92, x, y, z]
  simp only [List.length_cons, List.length_nil, Nat.zero_add, Nat.reduceAdd, List.map_cons, List.map_nil] at hcv
  have hc : (c.toNat : Int) ≤ 255 := by have := c.toNat_lt; omega
  obtain ⟨n, hn⟩ : ∃ n, c.toNat = n := ⟨_, rfl⟩
  rw [hn] at hc ⊢
  clear hn
  have b7 : bits BinOp.and IntKind.u8 ((n : Int) / 8) 7 = (n : Int) / 8 % 8 := and7 (n / 8) (by omega)
  have b8 : bits BinOp.and IntKind.u8 (n : Int) 7 = (n : Int) % 8 := and7 n (by omega)
  go_enter Try.func12, Try.ntmps12
  go_wp2_with fail
  go_ret
  exact ⟨rfl, (Below.refl _ _).alloc (Nat.le_refl _) _⟩

theorem ref_octal (c : UInt8) (w : World) : Calls Try.prog 13 #[.int .u8 (c.toNat : Int)] w fun e w' => e = .returned (.string ⟨(octal c).toArray⟩) ∧ Below w.heap.size w w' := by
  rw [← octal_nums]
  have hcv := fun x y z : Int => conv_new w [92, x, y, z]
  simp only [List.length_cons, List.length_nil, Nat.zero_add, Nat.reduceAdd, List.map_cons, List.map_nil] at hcv
  have hc : (c.toNat : Int) ≤ 255 := by have := c.toNat_lt; omega
  obtain ⟨n, hn⟩ : ∃ n, c.toNat = n := ⟨_, rfl⟩
  rw [hn] at hc ⊢
  go_enter Try.func13, Try.ntmps13
  go_wp2_with fail
  go_ret
  exact ⟨rfl, (Below.refl _ _).alloc (Nat.le_refl _) _⟩

theorem ref_plain (c : UInt8) (w : World) : Calls Try.prog 11 #[.int .u8 (c.toNat : Int)] w fun e w' => e = .returned (.bool (plain c)) ∧ w = w' := by
  obtain ⟨n, hn⟩ : ∃ n, c.toNat = n := ⟨_, rfl⟩
  have hp : plain c = (decide (32 ≤ n) && (decide (n ≤ 126) && !([34, 35, 36, 59, 91, 92, 93, 123, 125].contains n))) := by rw [← hn]; rfl
  rw [hp, hn]
  clear hp hn
  by_cases h1 : 32 ≤ n
  · by_cases h2 : n ≤ 126
    · by_cases e34 : n = 34
      · subst e34
        go_enter Try.func11, Try.ntmps11
        go_wp2_with fail
        go_ret
        exact ⟨ret_bool (by decide), rfl⟩
      have f34 : ((n : Int) == 34) = false := by simp; omega
      by_cases e35 : n = 35
      · subst e35
        go_enter Try.func11, Try.ntmps11
        go_wp2_with fail
        go_ret
        exact ⟨ret_bool (by decide), rfl⟩
      have f35 : ((n : Int) == 35) = false := by simp; omega
      by_cases e36 : n = 36
      · subst e36
        go_enter Try.func11, Try.ntmps11
        go_wp2_with fail
        go_ret
        exact ⟨ret_bool (by decide), rfl⟩
      have f36 : ((n : Int) == 36) = false := by simp; omega
      by_cases e59 : n = 59
      · subst e59
        go_enter Try.func11, Try.ntmps11
        go_wp2_with fail
        go_ret
        exact ⟨ret_bool (by decide), rfl⟩
      have f59 : ((n : Int) == 59) = false := by simp; omega
      by_cases e91 : n = 91
      · subst e91
        go_enter Try.func11, Try.ntmps11
        go_wp2_with fail
        go_ret
        exact ⟨ret_bool (by decide), rfl⟩
      have f91 : ((n : Int) == 91) = false := by simp; omega
      by_cases e92 : n = 92
      · subst e92
        go_enter Try.func11, Try.ntmps11
        go_wp2_with fail
        go_ret
        exact ⟨ret_bool (by decide), rfl⟩
      have f92 : ((n : Int) == 92) = false := by simp; omega
      by_cases e93 : n = 93
      · subst e93
        go_enter Try.func11, Try.ntmps11
        go_wp2_with fail
        go_ret
        exact ⟨ret_bool (by decide), rfl⟩
      have f93 : ((n : Int) == 93) = false := by simp; omega
      by_cases e123 : n = 123
      · subst e123
        go_enter Try.func11, Try.ntmps11
        go_wp2_with fail
        go_ret
        exact ⟨ret_bool (by decide), rfl⟩
      have f123 : ((n : Int) == 123) = false := by simp; omega
      by_cases e125 : n = 125
      · subst e125
        go_enter Try.func11, Try.ntmps11
        go_wp2_with fail
        go_ret
        exact ⟨ret_bool (by decide), rfl⟩
      have f125 : ((n : Int) == 125) = false := by simp; omega
      have hc : ([34, 35, 36, 59, 91, 92, 93, 123, 125].contains n) = false := by simp; omega
      rw [hc]
      go_enter Try.func11, Try.ntmps11
      go_wp2_with fail
      go_ret
      exact ⟨ret_bool (by simp [h1, h2]; omega), rfl⟩
    · have h2' : (126 : Int) < n := by omega
      go_enter Try.func11, Try.ntmps11
      go_wp2_with fail
      go_ret
      exact ⟨ret_bool (by rw [decide_eq_false h2]; simp), rfl⟩
  · have h1' : (n : Int) < 32 := by omega
    go_enter Try.func11, Try.ntmps11
    go_wp2_with fail
    go_ret
    exact ⟨ret_bool (by rw [decide_eq_false h1]; simp), rfl⟩

end Go.Proofs.Ythjaemocnlhkdaa
