/-
  The walk of the document's Escape. Condition: the text takes at most 2^47 bytes.
-/
import Derived.Test.YthjaemocnlhkdaaEsc
namespace Go.Proofs.Ythjaemocnlhkdaa
open Go.RowKit

/-- What it tells, by how many digits there are. -/
def refEscV (_s : ByteArray) (d : UInt8) (a : Nat) (X n : Nat) : Value := if n = 0 then escV (named d, (a : Int) + 2, 0) else escV (UInt8.ofNat X, (a : Int) + 1 + (n : Nat), 0)

theorem ret_esc2 (x : Nat) (y k : Int) (hy : y = (x : Int) % 256) : Ending.returned (.tuple #[.int .u8 y, .int .i64 k, .int .i64 0]) = .returned (.tuple #[.int .u8 ((UInt8.ofNat x).toNat : Int), .int .i64 k, .int .i64 0]) := by
  subst hy
  simp

set_option maxRecDepth 100000 in
set_option maxHeartbeats 2000000 in
theorem ref_escape_run (s : ByteArray) (a : Nat) (hs : s.size ≤ 140737488355328) (w : World) (ha : a + 1 < s.size) (c d : UInt8) (hc : s[a]'(by omega) = c) (h92 : c.toNat = 92) (hd : s[a + 1] = d) (X n : Nat) (hr : run8 3 (s.data.toList.drop (a + 1)) 0 = (X, n)) (hX : X < 512) :
    Calls Try.prog 19 #[.string s, .int .i64 a] w fun e w' => e = .returned (refEscV s d a X n) ∧ w = w' := by
  obtain ⟨k, hk⟩ : ∃ k, c.toNat = k := ⟨_, rfl⟩
  rw [hk] at h92
  subst h92
  have DD : Hid (n = 0 → digitB d = false) := fun h0 => by
    have e : s.data.toList.drop (a + 1) = d :: s.data.toList.drop (a + 1 + 1) := by rw [drop_get ha, hd]
    rw [e, h0] at hr
    by_cases hdd : digitB d = true
    · simp [run8, hdd] at hr
    · simpa using hdd
  have HR := Lib.hid hr
  clear hr
  have hsa : decide (s.size ≤ a) = false := by simp; omega
  have hsb : ((a : Int) + 1 == (s.size : Int)) = false := by simp; omega
  have hsc : decide ((a : Int) < 0) = false := by simp
  go_enter Try.func19, Try.ntmps19
  go_wp2_with fail
  go_loopg [7, 8] 3 (fun g v7 v8 wr => ∃ (j x : Nat), j + g = 3 ∧ v8 = .int .i64 x ∧ v7 = .int .i64 (j : Int) ∧ x < 8 ^ j ∧ a + 1 + j ≤ s.size ∧ wr = w ∧ Hid ((run8 (3 - j) (s.data.toList.drop (a + 1 + j)) x).1 = X ∧ (run8 (3 - j) (s.data.toList.drop (a + 1 + j)) x).2 + j = n))
  case atStart => exact ⟨0, 0, rfl, rfl, rfl, by omega, by omega, rfl, by show _ ∧ _; rw [Nat.add_zero, HR.out]; exact ⟨rfl, rfl⟩⟩
  case round =>
    obtain ⟨j, x, hj, rfl, rfl, hx, hjs, rfl, HRR⟩ := hrel
    clear HR
    by_cases hj3 : j < 3
    · by_cases hlt : a + 1 + j < s.size
      · obtain ⟨f, hf⟩ : ∃ f, s[a + 1 + j] = f := ⟨_, rfl⟩
        have HDC : Hid (s.data.toList.drop (a + 1 + j) = f :: s.data.toList.drop (a + 1 + j + 1)) := by
          show _ = _
          rw [drop_get hlt, hf]
        have hx64 : x < 64 := by
          have : 8 ^ j ≤ 8 ^ 2 := Nat.pow_le_pow_right (by omega) (by omega)
          omega
        obtain ⟨q, hq⟩ : ∃ q, f.toNat = q := ⟨_, rfl⟩
        have hq8 := f.toNat_lt
        rw [hq] at hq8
        by_cases h48 : 48 ≤ q
        · by_cases h55 : q ≤ 55
          · have HDF : Hid (digitB f = true) := by show _ = _; unfold digitB; rw [hq]; simp [h48, h55]
            go_wp2_with fail
            go_roundg (3 - (j + 1))
            case measure => omega
            case rel =>
              refine ⟨j + 1, 8 * x + (q - 48), by omega, by first | rfl | (congr 1; omega), by go_num, by rw [Nat.pow_succ]; omega, by omega, rfl, ?_⟩
              show _ ∧ _
              have h := HRR.out
              rw [HDC.out, show 3 - j = (3 - (j + 1)) + 1 by omega] at h
              simp only [run8, HDF.out, if_true, hq] at h
              rw [show a + 1 + (j + 1) = a + 1 + j + 1 by omega]
              refine ⟨h.1, ?_⟩
              have := h.2
              omega
          · have h55' : (55 : Int) < q := by omega
            have hdf : digitB f = false := by unfold digitB; rw [hq]; simp; omega
            have hfin : x = X ∧ j = n := by
              have h := HRR.out
              rw [HDC.out, show 3 - j = (3 - (j + 1)) + 1 by omega] at h
              simp only [run8, hdf] at h
              simpa using h
            obtain ⟨rfl, rfl⟩ := hfin
            clear HRR HDC hdf
            by_cases hj0 : j = 0
            · subst hj0
              have hdd : digitB d = false := DD.out rfl
              have HV : Hid (∀ r : UInt8, named d = r → refEscV s d a x 0 = .tuple #[.int .u8 (r.toNat : Int), .int .i64 ((a : Int) + 2), .int .i64 0]) := fun r hr => by unfold refEscV; rw [if_pos rfl, hr]; rfl
              obtain rfl : d = f := hd.symm.trans hf
              have hn : named d = if q = 114 then 13 else if q = 110 then 10 else if q = 116 then 9 else d := by rw [← hq]; rfl
              by_cases l1 : q = 110
              · subst l1
                have HE := Lib.hid (HV.out 10 (by rw [hn]; rfl))
                clear HV hn hdd
                go_wp2_with fail
                all_goals (go_ret3; exact ⟨(congrArg Ending.returned HE.out).symm, rfl⟩)
              · have z1 : ((q : Int) == 110) = false := by simp; omega
                by_cases l2 : q = 116
                · subst l2
                  have HE := Lib.hid (HV.out 9 (by rw [hn]; rfl))
                  clear HV hn hdd
                  go_wp2_with fail
                  all_goals (go_ret3; exact ⟨(congrArg Ending.returned HE.out).symm, rfl⟩)
                · have z2 : ((q : Int) == 116) = false := by simp; omega
                  by_cases l3 : q = 114
                  · subst l3
                    have HE := Lib.hid (HV.out 13 (by rw [hn]; rfl))
                    clear HV hn hdd
                    go_wp2_with fail
                    all_goals (go_ret3; exact ⟨(congrArg Ending.returned HE.out).symm, rfl⟩)
                  · have z3 : ((q : Int) == 114) = false := by simp; omega
                    have HE := Lib.hid (HV.out d (by rw [hn, if_neg l3, if_neg l1, if_neg l2]))
                    rw [hq] at HE
                    clear HV hn hdd
                    go_wp2_with fail
                    all_goals (go_ret3; exact ⟨(congrArg Ending.returned HE.out).symm, rfl⟩)
            · have hj1 : 0 < (j : Int) := by omega
              have HV : refEscV s d a x j = .tuple #[.int .u8 ((UInt8.ofNat x).toNat : Int), .int .i64 ((a : Int) + 1 + j), .int .i64 0] := by unfold refEscV; rw [if_neg hj0]; rfl
              have HE := Lib.hid HV
              clear HV
              go_wp2_with fail
              all_goals (go_ret3; exact ⟨(ret_esc2 x _ _ (by first | rfl | omega)).trans (congrArg Ending.returned HE.out).symm, rfl⟩)
        · have h48' : (q : Int) < 48 := by omega
          have hdf : digitB f = false := by unfold digitB; rw [hq]; simp; omega
          have hfin : x = X ∧ j = n := by
            have h := HRR.out
            rw [HDC.out, show 3 - j = (3 - (j + 1)) + 1 by omega] at h
            simp only [run8, hdf] at h
            simpa using h
          obtain ⟨rfl, rfl⟩ := hfin
          clear HRR HDC hdf
          by_cases hj0 : j = 0
          · subst hj0
            have hdd : digitB d = false := DD.out rfl
            have HV : Hid (∀ r : UInt8, named d = r → refEscV s d a x 0 = .tuple #[.int .u8 (r.toNat : Int), .int .i64 ((a : Int) + 2), .int .i64 0]) := fun r hr => by unfold refEscV; rw [if_pos rfl, hr]; rfl
            obtain rfl : d = f := hd.symm.trans hf
            have hn : named d = if q = 114 then 13 else if q = 110 then 10 else if q = 116 then 9 else d := by rw [← hq]; rfl
            by_cases l1 : q = 110
            · subst l1
              have HE := Lib.hid (HV.out 10 (by rw [hn]; rfl))
              clear HV hn hdd
              go_wp2_with fail
              all_goals (go_ret3; exact ⟨(congrArg Ending.returned HE.out).symm, rfl⟩)
            · have z1 : ((q : Int) == 110) = false := by simp; omega
              by_cases l2 : q = 116
              · subst l2
                have HE := Lib.hid (HV.out 9 (by rw [hn]; rfl))
                clear HV hn hdd
                go_wp2_with fail
                all_goals (go_ret3; exact ⟨(congrArg Ending.returned HE.out).symm, rfl⟩)
              · have z2 : ((q : Int) == 116) = false := by simp; omega
                by_cases l3 : q = 114
                · subst l3
                  have HE := Lib.hid (HV.out 13 (by rw [hn]; rfl))
                  clear HV hn hdd
                  go_wp2_with fail
                  all_goals (go_ret3; exact ⟨(congrArg Ending.returned HE.out).symm, rfl⟩)
                · have z3 : ((q : Int) == 114) = false := by simp; omega
                  have HE := Lib.hid (HV.out d (by rw [hn, if_neg l3, if_neg l1, if_neg l2]))
                  rw [hq] at HE
                  clear HV hn hdd
                  go_wp2_with fail
                  all_goals (go_ret3; exact ⟨(congrArg Ending.returned HE.out).symm, rfl⟩)
          · have hj1 : 0 < (j : Int) := by omega
            have HV : refEscV s d a x j = .tuple #[.int .u8 ((UInt8.ofNat x).toNat : Int), .int .i64 ((a : Int) + 1 + j), .int .i64 0] := by unfold refEscV; rw [if_neg hj0]; rfl
            have HE := Lib.hid HV
            clear HV
            go_wp2_with fail
            all_goals (go_ret3; exact ⟨(ret_esc2 x _ _ (by first | rfl | omega)).trans (congrArg Ending.returned HE.out).symm, rfl⟩)
      · have hfin : x = X ∧ j = n := by
          have h := HRR.out
          rw [List.drop_eq_nil_of_le (by simp; omega), show 3 - j = (3 - (j + 1)) + 1 by omega] at h
          simpa [run8] using h
        obtain ⟨rfl, rfl⟩ := hfin
        clear HRR
        by_cases hj0 : j = 0
        · subst hj0
          have hdd : digitB d = false := DD.out rfl
          have HV : Hid (∀ r : UInt8, named d = r → refEscV s d a x 0 = .tuple #[.int .u8 (r.toNat : Int), .int .i64 ((a : Int) + 2), .int .i64 0]) := fun r hr => by unfold refEscV; rw [if_pos rfl, hr]; rfl
          obtain ⟨q, hq⟩ : ∃ q, d.toNat = q := ⟨_, rfl⟩
          have hn : named d = if q = 114 then 13 else if q = 110 then 10 else if q = 116 then 9 else d := by rw [← hq]; rfl
          by_cases l1 : q = 110
          · subst l1
            have HE := Lib.hid (HV.out 10 (by rw [hn]; rfl))
            clear HV hn hdd
            go_wp2_with fail
            all_goals (go_ret3; exact ⟨(congrArg Ending.returned HE.out).symm, rfl⟩)
          · have z1 : ((q : Int) == 110) = false := by simp; omega
            by_cases l2 : q = 116
            · subst l2
              have HE := Lib.hid (HV.out 9 (by rw [hn]; rfl))
              clear HV hn hdd
              go_wp2_with fail
              all_goals (go_ret3; exact ⟨(congrArg Ending.returned HE.out).symm, rfl⟩)
            · have z2 : ((q : Int) == 116) = false := by simp; omega
              by_cases l3 : q = 114
              · subst l3
                have HE := Lib.hid (HV.out 13 (by rw [hn]; rfl))
                clear HV hn hdd
                go_wp2_with fail
                all_goals (go_ret3; exact ⟨(congrArg Ending.returned HE.out).symm, rfl⟩)
              · have z3 : ((q : Int) == 114) = false := by simp; omega
                have HE := Lib.hid (HV.out d (by rw [hn, if_neg l3, if_neg l1, if_neg l2]))
                rw [hq] at HE
                clear HV hn hdd
                go_wp2_with fail
                all_goals (go_ret3; exact ⟨(congrArg Ending.returned HE.out).symm, rfl⟩)
        · have hj1 : 0 < (j : Int) := by omega
          have HV : refEscV s d a x j = .tuple #[.int .u8 ((UInt8.ofNat x).toNat : Int), .int .i64 ((a : Int) + 1 + j), .int .i64 0] := by unfold refEscV; rw [if_neg hj0]; rfl
          have HE := Lib.hid HV
          clear HV
          go_wp2_with fail
          all_goals (go_ret3; exact ⟨(ret_esc2 x _ _ (by first | rfl | omega)).trans (congrArg Ending.returned HE.out).symm, rfl⟩)
    · have hfin : x = X ∧ j = n := by
        have h := HRR.out
        rw [show 3 - j = 0 by omega] at h
        simpa [run8] using h
      obtain ⟨rfl, rfl⟩ := hfin
      clear HRR
      by_cases hj0 : j = 0
      · subst hj0
        have hdd : digitB d = false := DD.out rfl
        have HV : Hid (∀ r : UInt8, named d = r → refEscV s d a x 0 = .tuple #[.int .u8 (r.toNat : Int), .int .i64 ((a : Int) + 2), .int .i64 0]) := fun r hr => by unfold refEscV; rw [if_pos rfl, hr]; rfl
        obtain ⟨q, hq⟩ : ∃ q, d.toNat = q := ⟨_, rfl⟩
        have hn : named d = if q = 114 then 13 else if q = 110 then 10 else if q = 116 then 9 else d := by rw [← hq]; rfl
        by_cases l1 : q = 110
        · subst l1
          have HE := Lib.hid (HV.out 10 (by rw [hn]; rfl))
          clear HV hn hdd
          go_wp2_with fail
          all_goals (go_ret3; exact ⟨(congrArg Ending.returned HE.out).symm, rfl⟩)
        · have z1 : ((q : Int) == 110) = false := by simp; omega
          by_cases l2 : q = 116
          · subst l2
            have HE := Lib.hid (HV.out 9 (by rw [hn]; rfl))
            clear HV hn hdd
            go_wp2_with fail
            all_goals (go_ret3; exact ⟨(congrArg Ending.returned HE.out).symm, rfl⟩)
          · have z2 : ((q : Int) == 116) = false := by simp; omega
            by_cases l3 : q = 114
            · subst l3
              have HE := Lib.hid (HV.out 13 (by rw [hn]; rfl))
              clear HV hn hdd
              go_wp2_with fail
              all_goals (go_ret3; exact ⟨(congrArg Ending.returned HE.out).symm, rfl⟩)
            · have z3 : ((q : Int) == 114) = false := by simp; omega
              have HE := Lib.hid (HV.out d (by rw [hn, if_neg l3, if_neg l1, if_neg l2]))
              rw [hq] at HE
              clear HV hn hdd
              go_wp2_with fail
              all_goals (go_ret3; exact ⟨(congrArg Ending.returned HE.out).symm, rfl⟩)
      · have hj1 : 0 < (j : Int) := by omega
        have HV : refEscV s d a x j = .tuple #[.int .u8 ((UInt8.ofNat x).toNat : Int), .int .i64 ((a : Int) + 1 + j), .int .i64 0] := by unfold refEscV; rw [if_neg hj0]; rfl
        have HE := Lib.hid HV
        clear HV
        go_wp2_with fail
        all_goals (go_ret3; exact ⟨(ret_esc2 x _ _ (by first | rfl | omega)).trans (congrArg Ending.returned HE.out).symm, rfl⟩)

theorem run8_lt : ∀ (k j : Nat) (l : List UInt8) (x : Nat), x < 8 ^ j → k + j ≤ 3 → (run8 k l x).1 < 512
  | 0, j, l, x, hx, hj => by
    have : 8 ^ j ≤ 8 ^ 3 := Nat.pow_le_pow_right (by omega) (by omega)
    simp only [run8]
    omega
  | k + 1, j, [], x, hx, hj => by
    have : 8 ^ j ≤ 8 ^ 3 := Nat.pow_le_pow_right (by omega) (by omega)
    simp only [run8]
    omega
  | k + 1, j, c :: l, x, hx, hj => by
    simp only [run8]
    split
    · rename_i h
      have hc : c.toNat - 48 ≤ 7 := by unfold digitB at h; simp at h; omega
      exact run8_lt k (j + 1) l _ (by rw [Nat.pow_succ]; omega) (by omega)
    · have : 8 ^ j ≤ 8 ^ 3 := Nat.pow_le_pow_right (by omega) (by omega)
      omega

theorem run8_zero {d : UInt8} {t : List UInt8} (h : digitB d = false) : run8 3 (d :: t) 0 = (0, 0) := by simp [run8, h]
theorem run8_pos {d : UInt8} {t : List UInt8} (h : digitB d = true) : (run8 3 (d :: t) 0).2 ≠ 0 := by simp [run8, h]

theorem ref_escape_out (s : ByteArray) (a : Int) (w : World) (h : a < 0 ∨ (s.size : Int) ≤ a) :
    Calls Try.prog 19 #[.string s, .int .i64 a] w fun e w' => e = .returned (escV (0, 0, 3)) ∧ w = w' := by
  rcases h with h | h
  · go_enter Try.func19, Try.ntmps19
    go_wp2_with fail
    go_ret3
    exact ⟨rfl, rfl⟩
  · have h0 : ¬ a < 0 := by omega
    go_enter Try.func19, Try.ntmps19
    go_wp2_with fail
    go_ret3
    exact ⟨rfl, rfl⟩

theorem ref_escape_no (s : ByteArray) (a : Nat) (w : World) (ha : a < s.size) (c : UInt8) (hc : s[a] = c) (h92 : c.toNat ≠ 92) :
    Calls Try.prog 19 #[.string s, .int .i64 a] w fun e w' => e = .returned (escV (0, 0, 3)) ∧ w = w' := by
  obtain ⟨k, hk⟩ : ∃ k, c.toNat = k := ⟨_, rfl⟩
  rw [hk] at h92
  have z : ((k : Int) != 92) = true := by simp; omega
  go_enter Try.func19, Try.ntmps19
  go_wp2_with fail
  go_ret3
  exact ⟨rfl, rfl⟩

theorem ref_escape_short (s : ByteArray) (a : Nat) (hs : s.size ≤ 140737488355328) (w : World) (ha : a < s.size) (h1 : a + 1 = s.size) (c : UInt8) (hc : s[a] = c) (h92 : c.toNat = 92) :
    Calls Try.prog 19 #[.string s, .int .i64 a] w fun e w' => e = .returned (escV (0, 0, 5)) ∧ w = w' := by
  obtain ⟨k, hk⟩ : ∃ k, c.toNat = k := ⟨_, rfl⟩
  rw [hk] at h92
  subst h92
  have z : ((a : Int) + 1 == (s.size : Int)) = true := by simp; omega
  go_enter Try.func19, Try.ntmps19
  go_wp2_with fail
  go_ret3
  exact ⟨rfl, rfl⟩

/-- What esc tells within the text. -/
theorem esc_at {s : ByteArray} {n : Nat} (h : n < s.size) : esc s.data.toList n = match s.data.toList.drop n with
      | [] => (0, 0, 3)
      | [c] => if c.toNat = 92 then (0, 0, 5) else (0, 0, 3)
      | c :: d :: t => if c.toNat = 92 then (if digitB d then (UInt8.ofNat (run8 3 (d :: t) 0).1, (n : Int) + 1 + ((run8 3 (d :: t) 0).2 : Nat), 0) else (named d, (n : Int) + 2, 0)) else (0, 0, 3) := by
  unfold esc
  rw [if_neg (by simp; omega)]
  rfl

/-- The document's Escape, whatever the text and the place. -/
theorem ref_escape_any (s : ByteArray) (a : Int) (hs : s.size ≤ 140737488355328) (w : World) : Calls Try.prog 19 #[.string s, .int .i64 a] w fun e w' => e = .returned (escV (esc s.data.toList a)) ∧ w = w' := by
  by_cases h : a < 0 ∨ (s.size : Int) ≤ a
  · have : esc s.data.toList a = (0, 0, 3) := by
      unfold esc
      rw [if_pos (by simpa using h)]
    rw [this]
    exact ref_escape_out s a w h
  · obtain ⟨n, rfl⟩ : ∃ n : Nat, a = n := ⟨a.toNat, by omega⟩
    have hn : n < s.size := by omega
    have he := esc_at hn
    by_cases h92 : (s[n]).toNat = 92
    · by_cases h1 : n + 1 < s.size
      · have hd2 := drop_get h1
        rw [drop_get hn, hd2] at he
        simp only [h92, if_true] at he
        have hrun := ref_escape_run s n hs w h1 _ _ rfl h92 rfl _ _ rfl (run8_lt 3 0 _ 0 (by simp) (by omega))
        by_cases hdd : digitB (s[n + 1]) = true
        · rw [hdd] at he
          simp only [if_true] at he
          rw [he]
          unfold refEscV at hrun
          rw [hd2, if_neg (run8_pos hdd)] at hrun
          exact hrun
        · rw [Bool.not_eq_true] at hdd
          rw [hdd] at he
          simp only [Bool.false_eq_true, if_false] at he
          rw [he]
          unfold refEscV at hrun
          rw [hd2, run8_zero hdd, if_pos rfl] at hrun
          exact hrun
      · rw [drop_get hn, List.drop_eq_nil_of_le (by simp; omega)] at he
        simp only [h92, if_true] at he
        rw [he]
        exact ref_escape_short s n hs w hn (by omega) _ rfl h92
    · have : esc s.data.toList n = (0, 0, 3) := by
        rw [he, drop_get hn]
        split
        · rfl
        · rename_i heq; simp at heq; rw [← heq.1, if_neg h92]
        · rename_i heq; simp at heq; rw [← heq.1, if_neg h92]
      rw [this]
      exact ref_escape_no s n w hn _ rfl h92

end Go.Proofs.Ythjaemocnlhkdaa
