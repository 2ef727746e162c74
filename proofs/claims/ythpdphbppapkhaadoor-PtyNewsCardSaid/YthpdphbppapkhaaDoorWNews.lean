/-
  The walk of PtyNews. Condition: the table 'other' reads as the program's text lays it.
-/
import Derived.Test.YthpdphbppapkhaaDoorAlive
namespace Go.Proofs.YthpdphbppapkhaaDoor.ptyNews
open Go.RowKit qb

theorem one_new (w : World) (ho : Oth w) : Oth (w.alloc (.cells #[.int .u8 1] 5)) := ho.below ((Below.refl _ _).alloc (Nat.le_refl _) _) (Nat.le_refl _)

set_option maxHeartbeats 1000000 in
theorem walk (a0 a1 : Int) (w : World) (_h0 : I64 a0) (_h1 : I64 a1) (ho : Oth w) : Calls Tryd.prog 7 #[.int .i64 a0, .int .i64 a1] w fun e w' => e = .returned (.bool true) ∧ Below w.heap.size w w' := by
  have HO := Lib.hid ho
  clear ho
  go_enter Tryd.func7, Tryd.ntmps7
  go_wp2_with fail
  refine (hang_bad none a1 (.inl rfl) w HO.out).mono ?_
  rintro e w1 ⟨rfl, rfl⟩
  go_wp2_with fail
  obtain ⟨w1, hw1⟩ : ∃ w1, w.alloc (.cells #[.int .u8 1] 5) = w1 := ⟨_, rfl⟩
  have ho1 := one_new w HO.out
  have hb1 : Below w.heap.size w (w.alloc (.cells #[.int .u8 1] 5)) := (Below.refl _ _).alloc (Nat.le_refl _) _
  rw [hw1] at ho1 hb1
  rw [hw1]
  clear hw1 HO
  refine (write_bad none a1 (.inl rfl) w1 ho1 _ _ _).mono ?_
  rintro e w2 ⟨rfl, rfl⟩
  go_wp2_with fail
  refine (read_bad none a1 (.inl rfl) w1 1).mono ?_
  rintro e w2 ⟨rfl, rfl⟩
  go_wp2_with fail
  refine (over_bad none a1 (.inl rfl) w1).mono ?_
  rintro e w2 ⟨rfl, rfl⟩
  go_wp2_with fail
  refine (waits_bad none a1 (.inl rfl) w1).mono ?_
  rintro e w2 ⟨rfl, rfl⟩
  go_wp2_with fail
  refine (room_bad none a1 (.inl rfl) w1 ho1).mono ?_
  rintro e w2 ⟨rfl, rfl⟩
  go_wp2_with fail
  by_cases hr : a0 < 1 ∨ 65536 < a0
  · refine (p_new_bad a0 hr w1).mono ?_
    rintro e w2 ⟨rfl, hb2⟩
    have hb := hb1.trans (hb2.mono hb1.size)
    have ho2 := ho1.below hb2 (Nat.le_refl _)
    clear hb1 hb2 ho1
    by_cases h1 : a0 < 1
    · go_wp2_with fail
      refine (alive_any w2 ho2).mono ?_
      rintro e w3 ⟨rfl, hb3⟩
      have hb4 := hb.trans (hb3.mono hb.size)
      clear hb hb3 ho2
      go_wp2_with fail
      go_ret
      exact ⟨rfl, hb4⟩
    · have h2 : 65536 < a0 := by omega
      go_wp2_with fail
      refine (alive_any w2 ho2).mono ?_
      rintro e w3 ⟨rfl, hb3⟩
      have hb4 := hb.trans (hb3.mono hb.size)
      clear hb hb3 ho2
      go_wp2_with fail
      go_ret
      exact ⟨rfl, hb4⟩
  · have h1 : ¬ a0 < 1 := by omega
    have h2 : ¬ 65536 < a0 := by omega
    refine (p_new a0 (by omega) (by omega) w1 ho1).mono ?_
    rintro e w2 ⟨p, F, rfl, hp, hb2, hF⟩
    have hb := hb1.trans (hb2.mono hb1.size)
    have ho2 := ho1.below hb2 (Nat.le_refl _)
    clear hb1 hb2 ho1
    go_wp2_with fail
    refine (alive_any w2 ho2).mono ?_
    rintro e w3 ⟨rfl, hb3⟩
    have hb4 := hb.trans (hb3.mono hb.size)
    have hp3 := hp.below hb3 (Nat.le_refl _)
    clear hb hb3 ho2 hp
    go_wp2_with fail
    refine (p_room hp3 true 0 rfl a0 (by show ((a0.toNat : Nat) : Int) - ((0 : Nat) : Int) = a0; omega)).mono ?_
    rintro e w4 ⟨rfl, k4, rfl⟩
    have hp4 : IsP (w3.drewN k4) p F a0.toNat ⟨[], [], false, false⟩ := hp3.same (fun _ _ => rfl) rfl
    go_wp2_with fail
    refine (p_room hp4 false 1 rfl a0 (by show ((a0.toNat : Nat) : Int) - ((0 : Nat) : Int) = a0; omega)).mono ?_
    rintro e w5 ⟨rfl, k5, rfl⟩
    have hp5 : IsP (w3.drewN (k4 + k5)) p F a0.toNat ⟨[], [], false, false⟩ := hp4.same (fun _ _ => rfl) rfl
    go_wp2_with fail
    refine (p_over hp5 false 0 rfl false rfl).mono ?_
    rintro e w6 ⟨rfl, rfl⟩
    go_wp2_with fail
    go_ret
    exact ⟨rfl, below_drewN hb4 (k4 + k5)⟩

end Go.Proofs.YthpdphbppapkhaaDoor.ptyNews
