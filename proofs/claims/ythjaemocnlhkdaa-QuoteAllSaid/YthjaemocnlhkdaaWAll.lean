/-
  The walk of QuoteAll. No condition.
-/
import Derived.Test.YthjaemocnlhkdaaAlive
namespace Go.Proofs.Ythjaemocnlhkdaa.quoteAll
open Go.RowKit

theorem octal_digits (c : UInt8) : digitB (48 + c / 64) = true ∧ digitB (48 + c / 8 % 8) = true ∧ digitB (48 + c % 8) = true ∧
    UInt8.ofNat (8 * (8 * (8 * 0 + ((48 + c / 64).toNat - 48)) + ((48 + c / 8 % 8).toNat - 48)) + ((48 + c % 8).toNat - 48)) = c := by
  have := each_byte (p := fun c => digitB (48 + c / 64) && digitB (48 + c / 8 % 8) && digitB (48 + c % 8) &&
    (UInt8.ofNat (8 * (8 * (8 * 0 + ((48 + c / 64).toNat - 48)) + ((48 + c / 8 % 8).toNat - 48)) + ((48 + c % 8).toNat - 48)) == c)) (by decide +kernel) c
  simp only [Bool.and_eq_true, beq_iff_eq] at this
  exact ⟨this.1.1.1, this.1.1.2, this.1.2, this.2⟩

theorem esc_octal (c d : UInt8) : esc (octal c ++ [d]) 0 = (c, 4, 0) := by
  obtain ⟨h1, h2, h3, h4⟩ := octal_digits c
  have e : (octal c ++ [d]) = 92 :: (48 + c / 64) :: (48 + c / 8 % 8) :: (48 + c % 8) :: [d] := rfl
  have hr : run8 3 ((48 + c / 64) :: (48 + c / 8 % 8) :: (48 + c % 8) :: [d]) 0 = (8 * (8 * (8 * 0 + ((48 + c / 64).toNat - 48)) + ((48 + c / 8 % 8).toNat - 48)) + ((48 + c % 8).toNat - 48), 3) := by
    simp only [run8, h1, h2, h3, if_true]
  rw [e]
  unfold esc
  rw [if_neg (by simp)]
  show (if (92 : UInt8).toNat = 92 then _ else _) = _
  rw [if_pos (by decide)]
  simp only [h1, if_true]
  rw [hr, h4]
  rfl

theorem esc_two (c d : UInt8) : (digitB c = true ∧ ∃ x n : Nat, esc [92, c, d] 0 = (UInt8.ofNat x, (0 : Int) + 1 + ((n : Nat) : Int), 0) ∧ 1 ≤ n) ∨ (digitB c = false ∧ esc [92, c, d] 0 = (named c, 2, 0)) := by
  have he : esc [92, c, d] 0 = if digitB c then (UInt8.ofNat (run8 3 (c :: [d]) 0).1, (0 : Int) + 1 + ((run8 3 (c :: [d]) 0).2 : Nat), 0) else (named c, 2, 0) := by
    unfold esc
    rw [if_neg (by simp)]
    rfl
  by_cases h : digitB c = true
  · refine .inl ⟨h, (run8 3 (c :: [d]) 0).1, (run8 3 (c :: [d]) 0).2, ?_, ?_⟩
    · rw [he, if_pos h]
    · have := run8_pos (t := [d]) h
      omega
  · rw [Bool.not_eq_true] at h
    exact .inr ⟨h, by rw [he, h]; rfl⟩

set_option maxRecDepth 100000 in
set_option maxHeartbeats 2000000 in
theorem walk (c d : UInt8) (w : World) : Calls Try.prog 7 #[.int .u8 (c.toNat : Int), .int .u8 (d.toNat : Int)] w fun e w' => e = .returned (.bool true) ∧ Below w.heap.size w w' := by
  obtain ⟨B, hB⟩ : ∃ B, w.heap.size = B := ⟨_, rfl⟩
  have HO := Lib.hid (octal_any c w)
  go_enter Try.func7, Try.ntmps7
  go_wp2_with fail
  refine Calls.mono HO.out ?_
  rintro e w1 ⟨rfl, hb1⟩
  rw [hB] at hb1
  have hcv := conv_one w1 d
  have hsz : (⟨(octal c).toArray⟩ : ByteArray).size = 4 := by rw [str_size]; rfl
  have hs1 : (⟨[d].toArray⟩ : ByteArray).size = 1 := by rw [str_size]; rfl
  have hcat : (⟨(octal c).toArray⟩ : ByteArray) ++ ⟨[d].toArray⟩ = ⟨(octal c ++ [d]).toArray⟩ := str_append _ _
  obtain ⟨S, hS⟩ : ∃ S : ByteArray, ⟨(octal c).toArray⟩ = S := ⟨_, rfl⟩
  obtain ⟨D, hD⟩ : ∃ D : ByteArray, ⟨[d].toArray⟩ = D := ⟨_, rfl⟩
  rw [hS] at hsz hcat
  rw [hD] at hs1 hcv hcat
  rw [hS]
  have HS := Lib.hid hS
  clear hS hD HO
  go_wp2_with fail
  refine (escape_any ⟨(octal c ++ [d]).toArray⟩ 0 (by simp [ByteArray.size, octal]) _).mono ?_
  rw [show (⟨(octal c ++ [d]).toArray⟩ : ByteArray).data.toList = octal c ++ [d] from by simp, esc_octal]
  rintro e w2 ⟨rfl, rfl⟩
  rw [show escV (c, 4, 0) = .tuple #[.int .u8 (c.toNat : Int), .int .i64 4, .int .i64 0] from rfl]
  obtain ⟨w2, hw2⟩ : ∃ w2, w1.alloc (.cells #[.int .u8 (d.toNat : Int)] 5) = w2 := ⟨_, rfl⟩
  have hb2 : Below B w w2 := by rw [← hw2]; exact hb1.alloc (by have := hb1.size; omega) _
  rw [hw2]
  have hcv2 := conv_new w2 [92, (c.toNat : Int), (d.toNat : Int)]
  rw [show strOfNums [92, (c.toNat : Int), (d.toNat : Int)] = ⟨[92, c, d].toArray⟩ from by simp [strOfNums]] at hcv2
  simp only [List.length_cons, List.length_nil, Nat.zero_add, Nat.reduceAdd, List.map_cons, List.map_nil] at hcv2
  have HB2 := Lib.hid hb2
  have HE2 : Hid (∀ w : World, Calls Try.prog 18 #[.string ⟨[92, c, d].toArray⟩, .int .i64 0] w fun e w' => e = .returned (escV (esc [92, c, d] 0)) ∧ w = w') := fun w => escape_any ⟨[92, c, d].toArray⟩ 0 (by simp [ByteArray.size]) w
  have HT := Lib.hid (esc_two c d)
  clear hb1 hb2 hw2 hcv hcat
  have hbs : B ≤ w2.heap.size := by have := HB2.out.size; omega
  obtain ⟨q, hq⟩ : ∃ q, c.toNat = q := ⟨_, rfl⟩
  have hq8 := c.toNat_lt
  rw [hq] at hq8 hcv2 ⊢
  rcases HT.out with ⟨hd, x, n, hes, hn⟩ | ⟨hd, hes⟩
  · have hqd : 48 ≤ q ∧ q ≤ 55 := by unfold digitB at hd; rw [hq] at hd; simpa using hd
    have HES := Lib.hid hes
    clear hd hes HT
    go_wp2_with fail
    refine Calls.mono (HE2.out _) ?_
    rw [HES.out, show escV (UInt8.ofNat x, (0 : Int) + 1 + ((n : Nat) : Int), 0) = .tuple #[.int .u8 ((UInt8.ofNat x).toNat : Int), .int .i64 ((0 : Int) + 1 + ((n : Nat) : Int)), .int .i64 0] from rfl]
    rintro e w3 ⟨rfl, rfl⟩
    have h2 : (2 : Int) ≤ 0 + 1 + (n : Int) := by omega
    have h2' : (2 : Int) ≤ 1 + (n : Int) := by omega
    go_wp2_with fail
    refine (alive_any _).mono ?_
    rintro e w4 ⟨rfl, hb4⟩
    have HB4 := Lib.hid hb4
    clear hb4
    go_wp2_with fail
    go_ret
    rw [hB]
    exact ⟨rfl, (HB2.out.alloc hbs _).trans (HB4.out.mono (by simp; omega))⟩
  · have hqd : q < 48 ∨ 55 < q := by unfold digitB at hd; rw [hq] at hd; simp at hd; omega
    have HES := Lib.hid hes
    clear hd hes HT
    have hnc : q ≠ 110 → q ≠ 114 → q ≠ 116 → ((named c).toNat : Int) = q := fun h1 h2 h3 => by
      have : named c = c := by unfold named; rw [hq, if_neg h2, if_neg h1, if_neg h3]
      rw [this, hq]
    have HNC : Hid _ := hnc
    obtain ⟨y, hy⟩ : ∃ y, ((named c).toNat : Int) = y := ⟨_, rfl⟩
    rw [hy] at HNC
    have HV : Hid (escV (named c, 2, 0) = .tuple #[.int .u8 y, .int .i64 2, .int .i64 0]) := by show _ = _; rw [← hy]; rfl
    clear hnc hy
    by_cases h3 : q = 110 ∨ q = 114 ∨ q = 116
    · have hgt : (55 : Int) < q := by omega
      have hngt : ¬ (q : Int) ≤ 55 := by omega
      rcases h3 with rfl | rfl | rfl
      · clear HNC
        first | simp only [Nat.cast_ofNat] at hcv2 | push_cast at hcv2
        go_wp2_with fail
        refine Calls.mono (HE2.out _) ?_
        rw [HES.out, HV.out]
        rintro e w3 ⟨rfl, rfl⟩
        go_wp2_with fail
        refine (alive_any _).mono ?_
        rintro e w4 ⟨rfl, hb4⟩
        have HB4 := Lib.hid hb4
        clear hb4
        go_wp2_with fail
        go_ret
        rw [hB]
        exact ⟨rfl, (HB2.out.alloc hbs _).trans (HB4.out.mono (by simp; omega))⟩
      · clear HNC
        first | simp only [Nat.cast_ofNat] at hcv2 | push_cast at hcv2
        go_wp2_with fail
        refine Calls.mono (HE2.out _) ?_
        rw [HES.out, HV.out]
        rintro e w3 ⟨rfl, rfl⟩
        go_wp2_with fail
        refine (alive_any _).mono ?_
        rintro e w4 ⟨rfl, hb4⟩
        have HB4 := Lib.hid hb4
        clear hb4
        go_wp2_with fail
        go_ret
        rw [hB]
        exact ⟨rfl, (HB2.out.alloc hbs _).trans (HB4.out.mono (by simp; omega))⟩
      · clear HNC
        first | simp only [Nat.cast_ofNat] at hcv2 | push_cast at hcv2
        go_wp2_with fail
        refine Calls.mono (HE2.out _) ?_
        rw [HES.out, HV.out]
        rintro e w3 ⟨rfl, rfl⟩
        go_wp2_with fail
        refine (alive_any _).mono ?_
        rintro e w4 ⟨rfl, hb4⟩
        have HB4 := Lib.hid hb4
        clear hb4
        go_wp2_with fail
        go_ret
        rw [hB]
        exact ⟨rfl, (HB2.out.alloc hbs _).trans (HB4.out.mono (by simp; omega))⟩
    · have e1 : ((q : Int) == 110) = false := by simp; omega
      have e2 : ((q : Int) == 114) = false := by simp; omega
      have e3 : ((q : Int) == 116) = false := by simp; omega
      have hyq := HNC.out (by omega) (by omega) (by omega)
      subst hyq
      have hm : ¬ (48 ≤ (q : Int) ∧ (q : Int) ≤ 55) := by omega
      clear HNC h3
      by_cases h48 : q < 48
      · have h48' : ¬ (48 : Int) ≤ q := by omega
        go_wp2_with fail
        refine Calls.mono (HE2.out _) ?_
        rw [HES.out, HV.out]
        rintro e w3 ⟨rfl, rfl⟩
        go_wp2_with fail
        refine (alive_any _).mono ?_
        rintro e w4 ⟨rfl, hb4⟩
        have HB4 := Lib.hid hb4
        clear hb4
        go_wp2_with fail
        go_ret
        rw [hB]
        exact ⟨rfl, (HB2.out.alloc hbs _).trans (HB4.out.mono (by simp; omega))⟩
      · have h48' : (48 : Int) ≤ q := by omega
        have h55' : ¬ (q : Int) ≤ 55 := by omega
        go_wp2_with fail
        refine Calls.mono (HE2.out _) ?_
        rw [HES.out, HV.out]
        rintro e w3 ⟨rfl, rfl⟩
        go_wp2_with fail
        refine (alive_any _).mono ?_
        rintro e w4 ⟨rfl, hb4⟩
        have HB4 := Lib.hid hb4
        clear hb4
        go_wp2_with fail
        go_ret
        rw [hB]
        exact ⟨rfl, (HB2.out.alloc hbs _).trans (HB4.out.mono (by simp; omega))⟩
end Go.Proofs.Ythjaemocnlhkdaa.quoteAll
