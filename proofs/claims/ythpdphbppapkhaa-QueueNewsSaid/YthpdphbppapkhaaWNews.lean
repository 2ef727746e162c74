/-
  The walk of QueueNews. No condition.
-/
import Derived.Test.YthpdphbppapkhaaAll
import Derived.Test.YthpdphbppapkhaaOpen
import Derived.Test.YthpdphbppapkhaaPutStr
import Derived.Deep.RegionHeld3
namespace Go.Proofs.Ythpdphbppapkhaa.queueNews
open Go.RowKit qi

set_option maxRecDepth 100000 in
set_option maxHeartbeats 2000000 in
theorem walk (a0 : Int) (w : World) (_h0 : I64 a0) :
    Calls Try.prog 8 #[.int .i64 a0] w fun e w' => e = .returned (.bool true) ∧ Below w.heap.size w w' := by
  go_enter Try.func8, Try.ntmps8
  go_wp2_with fail
  refine (alive_any w).mono ?_
  rintro e w1 ⟨rfl, hb1⟩
  go_wp2_with fail
  refine (end_nil w1).mono ?_
  rintro e w' ⟨rfl, rfl⟩
  go_wp2_with fail
  refine (put_nil _ _ _ _).mono ?_
  rintro e w' ⟨rfl, rfl⟩
  go_wp2_with fail
  refine (take_nil _ _).mono ?_
  rintro e w' ⟨rfl, rfl⟩
  go_wp2_with fail
  refine (peek_nil _ _).mono ?_
  rintro e w' ⟨rfl, rfl⟩
  go_wp2_with fail
  refine (len_nil _).mono ?_
  rintro e w' ⟨rfl, rfl⟩
  go_wp2_with fail
  refine (room_nil _).mono ?_
  rintro e w' ⟨rfl, rfl⟩
  go_wp2_with fail
  refine (over_nil _).mono ?_
  rintro e w' ⟨rfl, rfl⟩
  go_wp2_with fail
  refine (coll_none _).mono ?_
  rintro e w2 ⟨sp, sc, rfl, hown, hb2, _⟩
  have hbel1 : Below w.heap.size w (w1.alloc (.cells #[.int .i64 1] 3)) := hb1.alloc hb1.size _
  have hbel2 := hbel1.trans (hb2.mono hbel1.size)
  clear hown hb1 hbel1 hb2
  go_wp2_with fail
  by_cases hr : a0 < 1 ∨ 65536 < a0
  · refine (qs.new_bad a0 hr _).mono ?_
    rintro e w3 ⟨rfl, rfl⟩
    go_wp2_with fail
    all_goals (go_ret; exact ⟨rfl, hbel2⟩)
  · refine (qs.q_new a0 (by omega) (by omega) _).mono ?_
    rintro e w3 ⟨b, rfl, hq, hb3, hbb, _⟩
    have hbel3 := hbel2.trans (hb3.mono hbel2.size)
    have hn : a0 = (a0.toNat : Int) := by omega
    obtain ⟨n, hn'⟩ : ∃ n, a0.toNat = n := ⟨_, rfl⟩
    rw [hn'] at hn hq
    subst hn
    have HN : Hid _ := hr
    have hroom : qs.roomOf 0 n false = (n : Int) := by simp [qs.roomOf]
    have hn1 : ¬ ((n : Int) < 1) := by omega
    have hn2 : ¬ ((65536 : Int) < n) := by omega
    have HR := Lib.hid hroom
    clear hr hroom hn'
    go_wp2_with fail
    refine (qs.q_room_at hq _ HR.out).mono ?_
    rintro e w4 ⟨rfl, hq4, k, rfl⟩
    have hbel4 := below_drewN hbel3 k
    clear hq hbel3
    go_wp2_with fail
    refine (qs.q_len_at hq4 0 rfl).mono ?_
    rintro e w5 ⟨rfl, rfl⟩
    go_wp2_with fail
    refine (qs.q_over_at hq4 false rfl).mono ?_
    rintro e w5 ⟨rfl, rfl⟩
    go_wp2_with fail
    go_ret
    exact ⟨rfl, hbel4⟩

end Go.Proofs.Ythpdphbppapkhaa.queueNews
