/-
  The walks of the two 'name' functions: is a byte a name's? No condition.
-/
import Derived.Test.YthjaemocnlhkdaaBase
namespace Go.Proofs.Ythjaemocnlhkdaa
open Go.RowKit

/-- Is a byte a name's? -/
def nameB (c : UInt8) : Bool := (decide (97 ≤ c.toNat) && decide (c.toNat ≤ 122)) || (decide (65 ≤ c.toNat) && decide (c.toNat ≤ 90)) || (decide (48 ≤ c.toNat) && decide (c.toNat ≤ 57)) || decide (c.toNat = 95)

theorem name_any (c : UInt8) (w : World) : Calls Try.prog 25 #[.int .u8 (c.toNat : Int)] w fun e w' => e = .returned (.bool (nameB c)) ∧ w = w' := by
  unfold nameB
  obtain ⟨n, hn⟩ : ∃ n, c.toNat = n := ⟨_, rfl⟩
  rw [hn]
  clear hn
  by_cases h0 : n < 48
  · have hv : ((decide (97 ≤ n) && decide (n ≤ 122)) || (decide (65 ≤ n) && decide (n ≤ 90)) || (decide (48 ≤ n) && decide (n ≤ 57)) || decide (n = 95)) = false := by simp; omega
    rw [hv]
    clear hv
    go_enter Try.func25, Try.ntmps25
    go_wp2_with fail
    all_goals (go_ret; exact ⟨ret_bool (by first | rfl | (simp; omega)), rfl⟩)
  by_cases h1 : n ≤ 57
  · have hv : ((decide (97 ≤ n) && decide (n ≤ 122)) || (decide (65 ≤ n) && decide (n ≤ 90)) || (decide (48 ≤ n) && decide (n ≤ 57)) || decide (n = 95)) = true := by simp; omega
    rw [hv]
    clear hv
    go_enter Try.func25, Try.ntmps25
    go_wp2_with fail
    all_goals (go_ret; exact ⟨ret_bool (by first | rfl | (simp; omega)), rfl⟩)
  by_cases h2 : n < 65
  · have hv : ((decide (97 ≤ n) && decide (n ≤ 122)) || (decide (65 ≤ n) && decide (n ≤ 90)) || (decide (48 ≤ n) && decide (n ≤ 57)) || decide (n = 95)) = false := by simp; omega
    rw [hv]
    clear hv
    go_enter Try.func25, Try.ntmps25
    go_wp2_with fail
    all_goals (go_ret; exact ⟨ret_bool (by first | rfl | (simp; omega)), rfl⟩)
  by_cases h3 : n ≤ 90
  · have hv : ((decide (97 ≤ n) && decide (n ≤ 122)) || (decide (65 ≤ n) && decide (n ≤ 90)) || (decide (48 ≤ n) && decide (n ≤ 57)) || decide (n = 95)) = true := by simp; omega
    rw [hv]
    clear hv
    go_enter Try.func25, Try.ntmps25
    go_wp2_with fail
    all_goals (go_ret; exact ⟨ret_bool (by first | rfl | (simp; omega)), rfl⟩)
  by_cases h4 : n < 95
  · have hv : ((decide (97 ≤ n) && decide (n ≤ 122)) || (decide (65 ≤ n) && decide (n ≤ 90)) || (decide (48 ≤ n) && decide (n ≤ 57)) || decide (n = 95)) = false := by simp; omega
    rw [hv]
    clear hv
    go_enter Try.func25, Try.ntmps25
    go_wp2_with fail
    all_goals (go_ret; exact ⟨ret_bool (by first | rfl | (simp; omega)), rfl⟩)
  by_cases h5 : n = 95
  · subst h5
    go_enter Try.func25, Try.ntmps25
    go_wp2_with fail
    all_goals (go_ret; exact ⟨rfl, rfl⟩)
  by_cases h6 : n < 97
  · have hv : ((decide (97 ≤ n) && decide (n ≤ 122)) || (decide (65 ≤ n) && decide (n ≤ 90)) || (decide (48 ≤ n) && decide (n ≤ 57)) || decide (n = 95)) = false := by simp; omega
    rw [hv]
    clear hv
    go_enter Try.func25, Try.ntmps25
    go_wp2_with fail
    all_goals (go_ret; exact ⟨ret_bool (by first | rfl | (simp; omega)), rfl⟩)
  by_cases h7 : n ≤ 122
  · have hv : ((decide (97 ≤ n) && decide (n ≤ 122)) || (decide (65 ≤ n) && decide (n ≤ 90)) || (decide (48 ≤ n) && decide (n ≤ 57)) || decide (n = 95)) = true := by simp; omega
    rw [hv]
    clear hv
    go_enter Try.func25, Try.ntmps25
    go_wp2_with fail
    all_goals (go_ret; exact ⟨ret_bool (by first | rfl | (simp; omega)), rfl⟩)
  have hv : ((decide (97 ≤ n) && decide (n ≤ 122)) || (decide (65 ≤ n) && decide (n ≤ 90)) || (decide (48 ≤ n) && decide (n ≤ 57)) || decide (n = 95)) = false := by simp; omega
  rw [hv]
  clear hv
  go_enter Try.func25, Try.ntmps25
  go_wp2_with fail
  all_goals (go_ret; exact ⟨ret_bool (by first | rfl | (simp; omega)), rfl⟩)

theorem ref_name (c : UInt8) (w : World) : Calls Try.prog 26 #[.int .u8 (c.toNat : Int)] w fun e w' => e = .returned (.bool (nameB c)) ∧ w = w' := by
  unfold nameB
  obtain ⟨n, hn⟩ : ∃ n, c.toNat = n := ⟨_, rfl⟩
  rw [hn]
  clear hn
  by_cases h0 : n < 48
  · have hv : ((decide (97 ≤ n) && decide (n ≤ 122)) || (decide (65 ≤ n) && decide (n ≤ 90)) || (decide (48 ≤ n) && decide (n ≤ 57)) || decide (n = 95)) = false := by simp; omega
    rw [hv]
    clear hv
    go_enter Try.func26, Try.ntmps26
    go_wp2_with fail
    all_goals (go_ret; exact ⟨ret_bool (by first | rfl | (simp; omega)), rfl⟩)
  by_cases h1 : n ≤ 57
  · have hv : ((decide (97 ≤ n) && decide (n ≤ 122)) || (decide (65 ≤ n) && decide (n ≤ 90)) || (decide (48 ≤ n) && decide (n ≤ 57)) || decide (n = 95)) = true := by simp; omega
    rw [hv]
    clear hv
    go_enter Try.func26, Try.ntmps26
    go_wp2_with fail
    all_goals (go_ret; exact ⟨ret_bool (by first | rfl | (simp; omega)), rfl⟩)
  by_cases h2 : n < 65
  · have hv : ((decide (97 ≤ n) && decide (n ≤ 122)) || (decide (65 ≤ n) && decide (n ≤ 90)) || (decide (48 ≤ n) && decide (n ≤ 57)) || decide (n = 95)) = false := by simp; omega
    rw [hv]
    clear hv
    go_enter Try.func26, Try.ntmps26
    go_wp2_with fail
    all_goals (go_ret; exact ⟨ret_bool (by first | rfl | (simp; omega)), rfl⟩)
  by_cases h3 : n ≤ 90
  · have hv : ((decide (97 ≤ n) && decide (n ≤ 122)) || (decide (65 ≤ n) && decide (n ≤ 90)) || (decide (48 ≤ n) && decide (n ≤ 57)) || decide (n = 95)) = true := by simp; omega
    rw [hv]
    clear hv
    go_enter Try.func26, Try.ntmps26
    go_wp2_with fail
    all_goals (go_ret; exact ⟨ret_bool (by first | rfl | (simp; omega)), rfl⟩)
  by_cases h4 : n < 95
  · have hv : ((decide (97 ≤ n) && decide (n ≤ 122)) || (decide (65 ≤ n) && decide (n ≤ 90)) || (decide (48 ≤ n) && decide (n ≤ 57)) || decide (n = 95)) = false := by simp; omega
    rw [hv]
    clear hv
    go_enter Try.func26, Try.ntmps26
    go_wp2_with fail
    all_goals (go_ret; exact ⟨ret_bool (by first | rfl | (simp; omega)), rfl⟩)
  by_cases h5 : n = 95
  · subst h5
    go_enter Try.func26, Try.ntmps26
    go_wp2_with fail
    all_goals (go_ret; exact ⟨rfl, rfl⟩)
  by_cases h6 : n < 97
  · have hv : ((decide (97 ≤ n) && decide (n ≤ 122)) || (decide (65 ≤ n) && decide (n ≤ 90)) || (decide (48 ≤ n) && decide (n ≤ 57)) || decide (n = 95)) = false := by simp; omega
    rw [hv]
    clear hv
    go_enter Try.func26, Try.ntmps26
    go_wp2_with fail
    all_goals (go_ret; exact ⟨ret_bool (by first | rfl | (simp; omega)), rfl⟩)
  by_cases h7 : n ≤ 122
  · have hv : ((decide (97 ≤ n) && decide (n ≤ 122)) || (decide (65 ≤ n) && decide (n ≤ 90)) || (decide (48 ≤ n) && decide (n ≤ 57)) || decide (n = 95)) = true := by simp; omega
    rw [hv]
    clear hv
    go_enter Try.func26, Try.ntmps26
    go_wp2_with fail
    all_goals (go_ret; exact ⟨ret_bool (by first | rfl | (simp; omega)), rfl⟩)
  have hv : ((decide (97 ≤ n) && decide (n ≤ 122)) || (decide (65 ≤ n) && decide (n ≤ 90)) || (decide (48 ≤ n) && decide (n ≤ 57)) || decide (n = 95)) = false := by simp; omega
  rw [hv]
  clear hv
  go_enter Try.func26, Try.ntmps26
  go_wp2_with fail
  all_goals (go_ret; exact ⟨ret_bool (by first | rfl | (simp; omega)), rfl⟩)

end Go.Proofs.Ythjaemocnlhkdaa
