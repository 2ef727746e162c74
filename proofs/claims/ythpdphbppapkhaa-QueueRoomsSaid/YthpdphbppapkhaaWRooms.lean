/-
  The walk of QueueRooms. No condition.
-/
import Derived.Test.YthpdphbppapkhaaOpen
import Derived.Deep.RegionHeld3
namespace Go.Proofs.Ythpdphbppapkhaa.queueRooms
open Go.RowKit qi

/-- What was peeked at is still there behind a Put and a Take. -/
theorem keep_ints {w5 w7 w8 : World} {F F7 : List Nat} {base c sc k j : Nat} {sp : Option Addr} {xs : List Int} {o : Obj} (h : w5.ownsRow base 3 1 (.slice sp c sc) c (xs.map fun x => .int .i64 x)) (hk7 : Keeps F ((w5.drewN j).alloc o) w7) (hk8 : Keeps F7 w7 w8)
    (hn : ∀ x, (Value.slice sp c sc).ownBlock = some x → x ∉ F) (hl : ∀ x, (Value.slice sp c sc).ownBlock = some x → x < w5.heap.size) (hs7 : ∀ x, x ∈ F7 → x ∈ F ∨ ((w5.drewN j).alloc o).heap.size ≤ x) (hkc : k ≤ c) : Ints w8 sp k (xs.take k) := by
  have h0 : (w5.drewN j).ownsRow base 3 1 (.slice sp c sc) c (xs.map fun x => .int .i64 x) := h
  have h1 := own_keeps (h0.alloc o) hk7 hn
  have h2 := own_keeps h1 hk8 (fun x hx hm => by
    rcases hs7 x hm with hm | hm
    · exact hn x hx hm
    · have := hl x hx
      simp at hm
      omega)
  exact (ints_of_own h2).cut hkc

theorem one_given {w5 : World} {b n : Nat} {F : List Nat} {xs : List Int} {ended : Bool} (h : IsQ w5 b F xs n ended) (j : Nat) :
    IsQ ((w5.drewN j).alloc (.cells #[.int .i64 1] 3)) b F xs n ended ∧ GivenIn ((w5.drewN j).alloc (.cells #[.int .i64 1] 3)) F (some ⟨w5.heap.size, 0, none⟩) 1 1 [1] :=
  given_new (w := w5.drewN j) (h.same (fun _ _ => rfl)) [1] 1 rfl (by decide)

/-- Behind some acts: the queue, and that nothing old has turned. -/
def Inv (w : World) (b n : Nat) (wr : World) : Prop :=
  ∃ F xs, IsQ wr b F xs n false ∧ (∀ x, x ∈ F → w.heap.size ≤ x) ∧ Below w.heap.size w wr

theorem Inv.of {w wr wr' : World} {b n : Nat} {F F' : List Nat} {xs : List Int} (hF : ∀ x, x ∈ F → w.heap.size ≤ x) (hb : Below w.heap.size w wr) (hq : IsQ wr' b F' xs n false) (hk : Keeps F wr wr') (hs : ∀ x, x ∈ F' → x ∈ F ∨ wr.heap.size ≤ x) : Inv w b n wr' :=
  ⟨F', xs, hq, fun x hx => by
    have := hb.size
    rcases hs x hx with h | h
    · exact hF x h
    · omega, hk.below hb hF hb.size⟩

set_option maxRecDepth 100000 in
set_option maxHeartbeats 2000000 in
theorem walk (a0 : Int) (a1 : Option Addr) (len1 cap1 : Nat) (acts : List Act) (a2 : Int) (w : World) (_h0 : I64 a0) (h1 : IsActs w a1 len1 cap1 acts) (_h2 : I64 a2) :
    Calls Try.prog 4 #[.int .i64 a0, .slice a1 len1 cap1, .int .i64 a2] w fun e w' => e = .returned (.bool true) ∧ Below w.heap.size w w' := by
  have HG : Hid _ := h1
  by_cases hg : isGreat acts = true
  · go_enter Try.func4, Try.ntmps4
    go_wp2_with fail
    refine (alive_any w).mono ?_
    rintro e w1 ⟨rfl, hb1⟩
    go_wp2_with fail
    refine (great_any a1 len1 cap1 acts w1 (h1.below hb1)).mono ?_
    rintro e w2 ⟨rfl, hb2⟩
    rw [hg]
    go_wp2_with fail
    refine (alive_any w2).mono ?_
    rintro e w3 ⟨rfl, hb3⟩
    go_wp2_with fail
    go_ret
    exact ⟨rfl, (hb1.trans (hb2.mono hb1.size)).trans (hb3.mono (Nat.le_trans hb1.size hb2.size))⟩
  · go_enter Try.func4, Try.ntmps4
    go_wp2_with fail
    refine (alive_any w).mono ?_
    rintro e w1 ⟨rfl, hb1⟩
    go_wp2_with fail
    refine (great_any a1 len1 cap1 acts w1 (h1.below hb1)).mono ?_
    rintro e w2 ⟨rfl, hb2⟩
    rw [Bool.not_eq_true] at hg
    rw [hg]
    go_upto_region 3 with fail
    go_cut [7] (fun v7 w' => ∃ n : Nat, 1 ≤ n ∧ n ≤ 40 ∧ v7 = .int .i64 n ∧ w2 = w')
    case first =>
      go_wp2_with fail
      all_goals (go_meet; first | exact ⟨(1 + a0 % 40).toNat, by omega, by omega, congrArg (Value.int .i64) (by omega), rfl⟩ | exact ⟨1, by omega, by omega, rfl, rfl⟩)
    case rest =>
    obtain ⟨n, hn1, hn2, rfl, rfl⟩ := hcut
    go_wp2_with fail
    refine (q_new n (by omega) (by omega) w2).mono ?_
    rintro e w3 ⟨b, rfl, hq, hb3, hbb, _⟩
    rw [Int.toNat_natCast] at hq
    have hbel : Below w.heap.size w w3 := (hb1.trans (hb2.mono hb1.size)).trans (hb3.mono (Nat.le_trans hb1.size hb2.size))
    have hinv : Inv w b n w3 := ⟨[b], [], hq, fun x hx => by rcases List.mem_singleton.1 hx with rfl; exact Nat.le_trans (Nat.le_trans hb1.size hb2.size) hbb, hbel⟩
    have HA : Hid (∀ i, i < len1 → ∃ b off act, a1 = some ⟨b, off, none⟩ ∧ b < w.heap.size ∧ acts[i]? = some act ∧ IsAct w b (off + i * 3) act) := h1.2.2.2
    have hcap : len1 ≤ cap1 := h1.1
    have hcm := h1.2.1
    unfold maxLen at hcm
    clear h1 HG hb1 hb2 hb3 hq hbb hbel hg
    go_wp2_with fail
    go_loopg [39] len1 (fun g v39 wr => ∃ i : Nat, i + g = len1 ∧ v39 = .int .i64 i ∧ Inv w b n wr)
    case atStart => exact ⟨0, by omega, rfl, hinv⟩
    case round =>
      clear hinv
      obtain ⟨i, hi, rfl, F, xs, hq, hF, hbel⟩ := hrel
      by_cases hlt : i < len1
      · obtain ⟨ab, ao, ⟨kd, nn, ll⟩, rfl, hab, _, la, ln, lc, c0, c1, c2, hl, _⟩ := HA.out i hlt
        have d0 := (hbel.cell (p := ⟨ab, ao + i * 3, none⟩) hab).trans c0
        have d1 := (hbel.cell (p := ⟨ab, ao + i * 3 + 1, none⟩) hab).trans c1
        have d2 := (hbel.cell (p := ⟨ab, ao + i * 3 + 2, none⟩) hab).trans c2
        have HL := Lib.hid hl
        have hbel1 : Below w.heap.size w (wr.alloc (.cells #[.int .i64 kd, .int .i64 nn, .slice la ln lc] 37)) := hbel.alloc hbel.size _
        have hq1 : IsQ (wr.alloc (.cells #[.int .i64 kd, .int .i64 nn, .slice la ln lc] 37)) b F xs n false := hq.below ((Below.refl _ _).alloc (Nat.le_refl _) _) (Nat.le_refl _)
        clear c0 c1 c2 hl hq hbel
        have hsz : wr.heap.size < (wr.alloc (.cells #[.int .i64 kd, .int .i64 nn, .slice la ln lc] 37)).heap.size := by simp
        have hs1 := hbel1.size
        go_upto_block 2 with fail
        go_cut [] (fun w' => Inv w b n w')
        case first =>
          by_cases k0 : kd = 0
          · subst k0
            have hgv := HL.out.given hbel1 hF
            go_wp2_with fail
            refine (q_put hq1 la ln lc hgv).mono ?_
            rintro e w4 ⟨rfl, F4, hq4, hk4, hs4⟩
            go_wp2_with fail
            go_meet
            exact Inv.of hF hbel1 hq4 hk4 hs4
          · have z0 : (kd == 0) = false := by simpa using k0
            by_cases k1 : kd = 1
            · subst k1
              obtain ⟨c, hc⟩ : ∃ c, count nn xs.length = c := ⟨_, rfl⟩
              have hcl : c ≤ maxLen := by have := count_le nn xs.length; have := hq1.room; simp only [maxLen]; omega
              go_wp2_with fail
              refine (q_peek_at hq1 nn c _ hc rfl).mono ?_
              rintro e w4 ⟨sp, sc, rfl, hown, hq4, hb4⟩
              have hbel4 := hbel1.trans (hb4.mono hs1)
              have m1 : w4.cell? ⟨wr.heap.size, 1, none⟩ = some (.int .i64 nn) := (hb4.cell (p := ⟨wr.heap.size, 1, none⟩) hsz).trans (by simp)
              have hF4 : ∀ x, x ∈ F → x < (wr.alloc (.cells #[.int .i64 0, .int .i64 nn, .slice la ln lc] 37)).heap.size := fun x hx => by have := hq1.lt x hx; simpa using this
              clear hb4
              go_wp2_with fail
              refine (q_take_at hq4 nn c _ _ hc rfl rfl).mono ?_
              rintro e w5 ⟨sp5, sc5, rfl, hown5, hq5, hk5⟩
              have hown4 := own_keeps hown hk5 (fun x hx hm => by have := (hown.lt x hx).1; have := hF4 x hm; simp at *; omega)
              have hx := ints_of_own hown4
              have hy := ints_of_own hown5
              go_wp2_with fail
              refine (same_any sp sp5 c c sc sc5 _ _ _ hx hy hcl hcl).mono ?_
              rintro e w6 ⟨rfl, k, rfl⟩
              rw [decide_eq_true rfl]
              go_wp2_with fail
              go_meet
              exact Inv.of hF hbel4 (hq5.same (fun _ _ => rfl)) ⟨hk5.os, hk5.tape, hk5.output, hk5.size, hk5.block⟩ (fun x hx => .inl hx)
            · have z1 : (kd == 1) = false := by simpa using k1
              go_wp2_with fail
              go_meet
              exact ⟨F, xs, hq1, hF, hbel1⟩
        case rest =>
        obtain ⟨F4, ys, hq4, hF4, hbel4⟩ := hcut
        clear hq1 hbel1 hs1 hsz d0 d1 d2 HL hF
        have hrm := hq4.room
        have hroom : roomOf ys.length n false = (n : Int) - ys.length := rfl
        obtain ⟨m, hm⟩ : ∃ m, ys.length = m := ⟨_, rfl⟩
        have hov : (false && decide (ys.length = 0)) = false := rfl
        have hmn : m ≤ n := by omega
        rw [hm] at hroom
        have hroom' : roomOf ys.length n false = (n : Int) - m := by rw [hm]; exact hroom
        clear hroom
        have HM := Lib.hid hm
        have HR := Lib.hid hroom'
        have HO := Lib.hid hov
        clear hm hroom' hov hrm
        go_wp2_with fail
        refine (q_len_at hq4 m HM.out).mono ?_
        rintro e w5 ⟨rfl, rfl⟩
        go_wp2_with fail
        refine (q_room_at hq4 _ HR.out).mono ?_
        rintro e w6 ⟨rfl, hq6, k6, rfl⟩
        have hbel6 := below_drewN hbel4 k6
        clear hq4 hbel4
        have hsum : IntKind.i64.wrap ((m : Int) + ((n : Int) - m)) = n := by rw [IntWalk.i64_in _ (by omega)]; omega
        have hsum' : (m : Int) + ((n : Int) - m) = n := by omega
        go_wp2_with fail
        refine (q_over_at hq6 false rfl).mono ?_
        rintro e w7 ⟨rfl, rfl⟩
        go_wp2_with fail
        go_roundg (len1 - (i + 1))
        case measure => omega
        case rel => exact ⟨i + 1, by omega, by go_num, F4, ys, hq6, hF4, hbel6⟩
      · clear HA
        obtain ⟨c, hc⟩ : ∃ c, xs.length = c := ⟨_, rfl⟩
        have hrm := hq.room
        have hcnt : count 1000 xs.length = c := by unfold count; omega
        have htk : xs.take c = xs := by rw [← hc]; exact List.take_length
        have HCN := Lib.hid hcnt
        have HTK := Lib.hid htk
        have HC := Lib.hid hc
        have hcn : c ≤ n := by omega
        clear hcnt htk hc hrm
        go_wp2_with fail
        refine (q_peek_at hq 1000 c xs HCN.out HTK.out).mono ?_
        rintro e w4 ⟨sp, sc, rfl, hown, hq4, hb4⟩
        have hbel4 := hbel.trans (hb4.mono hbel.size)
        go_wp2_with fail
        refine (q_len_at hq4 c HC.out).mono ?_
        rintro e w5 ⟨rfl, rfl⟩
        go_wp2_with fail
        refine (q_end hq4).mono ?_
        rintro e w5 ⟨rfl, hq5, hk5⟩
        have hbel5 := hk5.below hbel4 hF hbel4.size
        have hown5 := own_keeps hown hk5 (fun x hx hm => by have := (hown.lt x hx).1; have := hq.lt x hm; omega)
        clear hbel hb4 hbel4 hq4 hk5 hown
        have hcs1 := (own_cap hown5).1
        have hcs2 := (own_cap hown5).2
        unfold maxLen at hcs2
        have hcc : ((c : Int) == (c : Int)) = true := by simp
        have hnew : ∀ x, (Value.slice sp c sc).ownBlock = some x → x ∉ F := fun x hx hm => by have := (hown5.lt x hx).1; have := hq.lt x hm; omega
        have hnlt : ∀ x, (Value.slice sp c sc).ownBlock = some x → x < w5.heap.size := fun x hx => (hown5.lt x hx).2
        have htook : took 1 xs.length n true = 0 := by simp [took]
        obtain ⟨k2, hk2⟩ : ∃ k2, count a2 xs.length = k2 := ⟨_, rfl⟩
        have hk2' : k2 = (min a2 (xs.length : Int)).toNat := by rw [← hk2]; rfl
        rw [HC.out] at hk2'
        have hkc : k2 ≤ c := by omega
        have hksc : k2 ≤ sc := by omega
        have HXS : Hid (xs ++ ([1] : List Int).take 0 = xs) := List.append_nil xs
        have HN : Hid _ := hnew
        have HNL : Hid _ := hnlt
        have HT := Lib.hid htook
        have HK2 := Lib.hid hk2
        have HK3 := Lib.hid hk2'
        have HOWN := Lib.hid hown5
        clear hown5 hnew hnlt htook hk2 hk2'
        go_wp2_with fail
        refine wp_region_noPanic ?_
        refine wp_region_held_drew (S := fun _ => True) (by kernel_rfl) (trivial) (fun hHeld => ?_)
        refine wpAnyH_take (i := 0) (oi := ⟨some 82, _, _, _, _, _⟩) (v := ?_) rfl (by kernel_rfl) (by kernel_rfl) (by kernel_rfl) (fun _ _ _ h => h) (Or.inl ⟨by rfl, ?_⟩) trivial ?_
        rotate_left
        · intro w _; go_simp; try with_reducible rfl
        try simp only [Act.put, List.setIfInBounds_toArray, List.set_cons_zero, List.set_cons_succ]
        refine wpAnyH_take (i := 1) (oi := ⟨some 83, _, _, _, _, _⟩) (v := ?_) rfl (by kernel_rfl) (by kernel_rfl) (by kernel_rfl) (fun _ _ _ h => h) (Or.inl ⟨by rfl, ?_⟩) trivial ?_
        rotate_left
        · intro w _; go_simp; try with_reducible rfl
        try simp only [Act.put, List.setIfInBounds_toArray, List.set_cons_zero, List.set_cons_succ]
        refine wpAnyH_take (i := 2) (oi := ⟨some 84, _, _, _, _, _⟩) (v := ?_) rfl (by kernel_rfl) (by kernel_rfl) (by kernel_rfl) (fun _ _ _ h => h) (Or.inl ⟨by rfl, ?_⟩) trivial ?_
        rotate_left
        · intro w _; go_simp; try with_reducible rfl
        try simp only [Act.put, List.setIfInBounds_toArray, List.set_cons_zero, List.set_cons_succ]
        refine wpAnyH_take (i := 3) (oi := ⟨some 85, _, _, _, _, _⟩) (v := ?_) rfl (by kernel_rfl) (by kernel_rfl) (by kernel_rfl) (fun _ _ _ h => h) (Or.inl ⟨by rfl, ?_⟩) trivial ?_
        rotate_left
        · intro w _; go_simp; try with_reducible rfl
        try simp only [Act.put, List.setIfInBounds_toArray, List.set_cons_zero, List.set_cons_succ]
        refine wpAnyH_take (i := 4) (oi := ⟨some 86, _, _, _, _, _⟩) (v := ?_) rfl (by kernel_rfl) (by kernel_rfl) (by kernel_rfl) (fun _ _ _ h => h) (Or.inl ⟨by rfl, ?_⟩) trivial ?_
        rotate_left
        · intro w _; go_simp; try with_reducible rfl
        try simp only [Act.put, List.setIfInBounds_toArray, List.set_cons_zero, List.set_cons_succ]
        refine wpAnyH_take (i := 5) (oi := ⟨some 87, _, _, _, _, _⟩) (v := ?_) rfl (by kernel_rfl) (by kernel_rfl) (by kernel_rfl) (fun _ _ _ h => h) (Or.inl ⟨by rfl, ?_⟩) trivial ?_
        rotate_left
        · intro w _; go_simp; try with_reducible rfl
        try simp only [Act.put, List.setIfInBounds_toArray, List.set_cons_zero, List.set_cons_succ]
        refine wpAnyH_ready (rs := [6]) (by kernel_rfl) (by simp) (AllReadyH.cons (o := ⟨some 88, _, _, _, _, _⟩) rfl (fun K hK => ?_) AllReadyH.nil)
        go_simp
        refine (q_room_at (hq5.same (w' := w5.drew) (fun _ _ => rfl)) 0 rfl).mono ?_; rintro e w6 ⟨rfl, _, k6, rfl⟩
        refine hK.out _ _ trivial (fun hHeld => ?_)
        clear hK K
        try simp only [Act.put, List.setIfInBounds_toArray, List.set_cons_zero, List.set_cons_succ]
        refine wpAnyH_take (i := 7) (oi := ⟨some 89, _, _, _, _, _⟩) (v := ?_) rfl (by kernel_rfl) (by kernel_rfl) (by kernel_rfl) (fun _ _ _ h => h) (Or.inl ⟨by rfl, ?_⟩) trivial ?_
        rotate_left
        · intro w _; go_simp; try with_reducible rfl
        try simp only [Act.put, List.setIfInBounds_toArray, List.set_cons_zero, List.set_cons_succ]
        refine wpAnyH_take (i := 8) (oi := ⟨some 90, _, _, _, _, _⟩) (v := ?_) rfl (by kernel_rfl) (by kernel_rfl) (by kernel_rfl) (fun _ _ _ h => h) (Or.inl ⟨by rfl, ?_⟩) trivial ?_
        rotate_left
        · intro w _; go_simp; try with_reducible rfl
        try simp only [Act.put, List.setIfInBounds_toArray, List.set_cons_zero, List.set_cons_succ]
        refine wpAnyH_take (i := 9) (oi := ⟨some 91, _, _, _, _, _⟩) (v := ?_) rfl (by kernel_rfl) (by kernel_rfl) (by kernel_rfl) (fun _ _ _ h => h) (Or.inl ⟨by rfl, ?_⟩) trivial ?_
        rotate_left
        · intro w _; go_simp; try with_reducible rfl
        try simp only [Act.put, List.setIfInBounds_toArray, List.set_cons_zero, List.set_cons_succ]
        refine wpAnyH_take (i := 10) (oi := ⟨some 92, _, _, _, _, _⟩) (v := ?_) rfl (by kernel_rfl) (by kernel_rfl) (by kernel_rfl) (fun _ _ _ h => h) (Or.inl ⟨by rfl, ?_⟩) trivial ?_
        rotate_left
        · intro w _; go_simp; try with_reducible rfl
        try simp only [Act.put, List.setIfInBounds_toArray, List.set_cons_zero, List.set_cons_succ]
        refine wpAnyH_ready (rs := [11]) (by kernel_rfl) (by simp) (AllReadyH.cons (o := ⟨some 93, _, _, _, _, _⟩) rfl (fun K hK => ?_) AllReadyH.nil)
        go_simp
        refine hK.out _ _ trivial (fun hHeld => ?_)
        clear hK K
        try simp only [Act.put, List.setIfInBounds_toArray, List.set_cons_zero, List.set_cons_succ]
        refine wpAnyH_ready (rs := [12]) (by kernel_rfl) (by simp) (AllReadyH.cons (o := ⟨some 94, _, _, _, _, _⟩) rfl (fun K hK => ?_) AllReadyH.nil)
        go_simp
        (with_reducible refine (q_put_at (one_given hq5 (1 + k6)).1 _ _ _ (one_given hq5 (1 + k6)).2 0 xs HT.out HXS.out).mono ?_); rintro e w7 ⟨rfl, F7, hq7, hk7, hs7⟩; have HK7 := Lib.hid hk7; have HS7 : Hid _ := hs7; clear hk7 hs7
        refine hK.out _ _ trivial (fun hHeld => ?_)
        clear hK K
        try simp only [Act.put, List.setIfInBounds_toArray, List.set_cons_zero, List.set_cons_succ]
        refine wpAnyH_take (i := 13) (oi := ⟨some 95, _, _, _, _, _⟩) (v := ?_) rfl (by kernel_rfl) (by kernel_rfl) (by kernel_rfl) (fun _ _ _ h => h) (Or.inl ⟨by rfl, ?_⟩) trivial ?_
        rotate_left
        · intro w _; go_simp; try with_reducible rfl
        try simp only [Act.put, List.setIfInBounds_toArray, List.set_cons_zero, List.set_cons_succ]
        refine wpAnyH_take (i := 14) (oi := ⟨some 96, _, _, _, _, _⟩) (v := ?_) rfl (by kernel_rfl) (by kernel_rfl) (by kernel_rfl) (fun _ _ _ h => h) (Or.inl ⟨by rfl, ?_⟩) trivial ?_
        rotate_left
        · intro w _; go_simp; try with_reducible rfl
        try simp only [Act.put, List.setIfInBounds_toArray, List.set_cons_zero, List.set_cons_succ]
        refine wpAnyH_take (i := 15) (oi := ⟨some 97, _, _, _, _, _⟩) (v := ?_) rfl (by kernel_rfl) (by kernel_rfl) (by kernel_rfl) (fun _ _ _ h => h) (Or.inl ⟨by rfl, ?_⟩) trivial ?_
        rotate_left
        · intro w _; go_simp; try with_reducible rfl
        try simp only [Act.put, List.setIfInBounds_toArray, List.set_cons_zero, List.set_cons_succ]
        refine wpAnyH_take (i := 16) (oi := ⟨some 98, _, _, _, _, _⟩) (v := ?_) rfl (by kernel_rfl) (by kernel_rfl) (by kernel_rfl) (fun _ _ _ h => h) (Or.inl ⟨by rfl, ?_⟩) trivial ?_
        rotate_left
        · intro w _; go_simp; try with_reducible rfl
        try simp only [Act.put, List.setIfInBounds_toArray, List.set_cons_zero, List.set_cons_succ]
        refine wpAnyH_take (i := 17) (oi := ⟨some 99, _, _, _, _, _⟩) (v := ?_) rfl (by kernel_rfl) (by kernel_rfl) (by kernel_rfl) (fun _ _ _ h => h) (Or.inl ⟨by rfl, ?_⟩) trivial ?_
        rotate_left
        · intro w _; go_simp; try with_reducible rfl
        try simp only [Act.put, List.setIfInBounds_toArray, List.set_cons_zero, List.set_cons_succ]
        refine wpAnyH_take (i := 19) (oi := ⟨some 101, _, _, _, _, _⟩) (v := ?_) rfl (by kernel_rfl) (by kernel_rfl) (by kernel_rfl) (fun _ _ _ h => h) (Or.inl ⟨by rfl, ?_⟩) trivial ?_
        rotate_left
        · intro w _; go_simp; try with_reducible rfl
        try simp only [Act.put, List.setIfInBounds_toArray, List.set_cons_zero, List.set_cons_succ]
        refine wpAnyH_take (i := 20) (oi := ⟨some 102, _, _, _, _, _⟩) (v := ?_) rfl (by kernel_rfl) (by kernel_rfl) (by kernel_rfl) (fun _ _ _ h => h) (Or.inl ⟨by rfl, ?_⟩) trivial ?_
        rotate_left
        · intro w _; go_simp; try with_reducible rfl
        try simp only [Act.put, List.setIfInBounds_toArray, List.set_cons_zero, List.set_cons_succ]
        refine wpAnyH_take (i := 21) (oi := ⟨some 103, _, _, _, _, _⟩) (v := ?_) rfl (by kernel_rfl) (by kernel_rfl) (by kernel_rfl) (fun _ _ _ h => h) (Or.inl ⟨by rfl, ?_⟩) trivial ?_
        rotate_left
        · intro w _; go_simp; try with_reducible rfl
        try simp only [Act.put, List.setIfInBounds_toArray, List.set_cons_zero, List.set_cons_succ]
        refine wpAnyH_take (i := 22) (oi := ⟨some 104, _, _, _, _, _⟩) (v := .int .i64 (min a2 c)) rfl (by kernel_rfl) (by kernel_rfl) (by kernel_rfl) (fun _ _ _ h => h) (Or.inl ⟨by rfl, ?_⟩) trivial ?_
        · intro w _; go_simp; first | done | (split <;> omega)
        try simp only [Act.put, List.setIfInBounds_toArray, List.set_cons_zero, List.set_cons_succ]
        refine wpAnyH_take (i := 23) (oi := ⟨some 105, _, _, _, _, _⟩) (v := .int .i64 k2) rfl (by kernel_rfl) (by kernel_rfl) (by kernel_rfl) (fun _ _ _ h => h) (Or.inl ⟨by rfl, ?_⟩) trivial ?_
        · have := HK3.out; intro w _; go_simp; first | done | (split <;> omega)
        try simp only [Act.put, List.setIfInBounds_toArray, List.set_cons_zero, List.set_cons_succ]
        refine wpAnyH_take (i := 24) (oi := ⟨some 106, _, _, _, _, _⟩) (v := ?_) rfl (by kernel_rfl) (by kernel_rfl) (by kernel_rfl) (fun _ _ _ h => h) (Or.inl ⟨by rfl, ?_⟩) trivial ?_
        rotate_left
        · intro w _; go_simp; try with_reducible rfl
        try simp only [Act.put, List.setIfInBounds_toArray, List.set_cons_zero, List.set_cons_succ]
        refine wpAnyH_ready (rs := [18]) (by kernel_rfl) (by simp) (AllReadyH.cons (o := ⟨some 100, _, _, _, _, _⟩) rfl (fun K hK => ?_) AllReadyH.nil)
        go_simp
        refine (q_take_at hq7 _ k2 (xs.take k2) (xs.drop k2) HK2.out rfl rfl).mono ?_; rintro e w8 ⟨sp8, sc8, rfl, hown8, hq8, hk8⟩; have HK8 := Lib.hid hk8; clear hk8
        refine hK.out _ _ trivial (fun hHeld => ?_)
        clear hK K
        try simp only [Act.put, List.setIfInBounds_toArray, List.set_cons_zero, List.set_cons_succ]
        refine wpAnyH_ready (rs := [25]) (by kernel_rfl) (by simp) (AllReadyH.cons (o := ⟨some 107, _, _, _, _, _⟩) rfl (fun K hK => ?_) AllReadyH.nil)
        go_simp
        refine (same_any sp8 sp k2 k2 sc8 sc (xs.take k2) (xs.take k2) _ (ints_of_own hown8) (keep_ints HOWN.out HK7.out HK8.out HN.out HNL.out HS7.out hkc) (by simp only [maxLen]; omega) (by simp only [maxLen]; omega)).mono ?_; rintro e w9 ⟨rfl, k9, rfl⟩; rw [decide_eq_true rfl]
        refine hK.out _ _ trivial (fun hHeld => ?_)
        clear hK K
        try simp only [Act.put, List.setIfInBounds_toArray, List.set_cons_zero, List.set_cons_succ]
        refine wpAnyH_take (i := 26) (oi := ⟨some 108, _, _, _, _, _⟩) (v := ?_) rfl (by kernel_rfl) (by kernel_rfl) (by kernel_rfl) (fun _ _ _ h => h) (Or.inl ⟨by rfl, ?_⟩) trivial ?_
        rotate_left
        · intro w _; go_simp; try with_reducible rfl
        try simp only [Act.put, List.setIfInBounds_toArray, List.set_cons_zero, List.set_cons_succ]
        refine wpAnyH_take (i := 27) (oi := ⟨some 6, _, _, _, _, _⟩) (v := ?_) rfl (by kernel_rfl) (by kernel_rfl) (by kernel_rfl) (fun _ _ _ h => h) (Or.inl ⟨by rfl, ?_⟩) trivial ?_
        rotate_left
        · intro w _; go_simp; try with_reducible rfl
        try simp only [Act.put, List.setIfInBounds_toArray, List.set_cons_zero, List.set_cons_succ]
        refine wpAnyH_done (by kernel_rfl) ?_ _
        refine NoPanic.normal ?_
        go_wp2_with fail
        go_ret
        refine ⟨rfl, ?_⟩
        have hb6 : Below w.heap.size w ((w5.drewN (1 + k6)).alloc (.cells #[.int .i64 1] 3)) := (below_drewN hbel5 (1 + k6)).alloc hbel5.size _
        have hb7 := HK7.out.below hb6 hF hb6.size
        have hb8 := HK8.out.below hb7 (fun x hx => by rcases HS7.out x hx with h | h; exact hF x h; exact Nat.le_trans hb6.size h) hb7.size
        exact below_drewN hb8 k9

end Go.Proofs.Ythpdphbppapkhaa.queueRooms
