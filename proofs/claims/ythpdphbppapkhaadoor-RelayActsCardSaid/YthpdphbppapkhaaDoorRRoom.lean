/-
  The walks of the reference relay's room and of the greatest of some times. Condition: as the notes are (Notes).
-/
import Derived.Test.YthpdphbppapkhaaDoorRRel
import Derived.Test.YthpdphbppapkhaaDoorEnds7
import Derived.Deep.RegionHeld3
namespace Go.Proofs.YthpdphbppapkhaaDoor
open Go.RowKit qb

set_option maxRecDepth 100000 in
set_option maxHeartbeats 2000000 in
theorem ref_bytes_s {w : World} {v : Value} {evs : List Ev} (h : Shown w v evs) (d : Int) (hs : total evs ≤ 262144) (hl : evs.length ≤ 4096) :
    Calls Tryd.prog 35 #[.int .i64 d, v] w fun e w' => ∃ u, e = .returned u ∧ w'.ownsRow w.heap.size 5 1 u (noted d evs).length ((noted d evs).map fun x => .int .u8 x) ∧ Below w.heap.size w w' := by
  obtain ⟨sp, sc, rfl, hle, hcm, hget⟩ := h
  obtain ⟨n, hn⟩ : ∃ n, evs.length = n := ⟨_, rfl⟩
  rw [hn] at hle hl ⊢
  unfold maxLen at hcm
  have HG : Hid _ := hget
  have HS := Lib.hid hs
  have HN := Lib.hid hn
  clear hget hs hn
  go_enter Tryd.func35, Tryd.ntmps35
  go_wp2_with fail
  go_loopg [5, 6] n (fun g v5 v6 wr => ∃ i : Nat, i + g = n ∧ v6 = .int .i64 i ∧ Hid (wr.ownsRow w.heap.size 5 1 v5 (noted d (evs.take i)).length ((noted d (evs.take i)).map fun x => .int .u8 x)) ∧ Below w.heap.size w wr)
  case atStart => exact ⟨0, by omega, rfl, World.ownsRow_nil _ _ _ _, Below.refl _ _⟩
  case round =>
    obtain ⟨i, hi, rfl, hown, hb⟩ := hrel
    by_cases hlt : i < n
    · obtain ⟨e, he⟩ : ∃ e, evs[i]? = some e := ⟨evs[i]'(by rw [HN.out]; exact hlt), by rw [List.getElem?_eq_getElem]⟩
      obtain ⟨g, x, Q, rfl, hg2, c0, c1, c2, hsl⟩ := HG.out i e he
      have d0 := (hb.cell (p := ⟨g, i * 3, none⟩) hg2).trans c0
      have d2 := (hb.cell (p := ⟨g, i * 3 + 2, none⟩) hg2).trans c2
      obtain ⟨a, c, rfl, _, _⟩ := hsl.form
      have hsn := noted_snoc d evs i e he
      have hle1 := noted_take_le d evs (i + 1)
      have hle2 := HS.out
      obtain ⟨dir, time, data⟩ := e
      obtain ⟨k, hk⟩ : ∃ k, data.length = k := ⟨_, rfl⟩
      dsimp only at *
      rw [hk] at d2 hsl
      have HSL := Lib.hid (hsl.below hb)
      obtain ⟨xs, hxs⟩ : ∃ xs, noted d (evs.take i) = xs := ⟨_, rfl⟩
      rw [hxs] at hown hsn
      obtain ⟨m, hm⟩ : ∃ m, xs.length = m := ⟨_, rfl⟩
      rw [hm] at hown
      have HSN := Lib.hid hsn
      have HOWN := hown
      have HB := Lib.hid hb
      by_cases hd : dir = d
      · have hnx : noted d (evs.take (i + 1)) = xs ++ data := by rw [hsn, if_pos hd]
        have hmk : m + k ≤ 262144 := by rw [hnx, List.length_append, hm, hk] at hle1; omega
        have HNX := Lib.hid hnx
        have HLN : Hid ((xs ++ data).length = m + k) := by show _ = _; rw [List.length_append, hm, hk]
        have hbs := hb.size
        clear c0 c1 c2 he hsl hsn hle1 hown hb hxs hm hk hnx
        go_wp2_with (at_builtin; refine wpList_app5 rfl _ _ rfl w.heap.size _ xs data m rfl HOWN.out Q a k c rfl HSL.out (by omega) hbs ?_; intro v' w5 hown5 hgrow5)
        go_roundg (n - (i + 1))
        case measure => omega
        case rel =>
          refine ⟨i + 1, by omega, by go_num, ?_, HB.out.grown hgrow5 hbs (fun j hj => ?_)⟩
          · show World.ownsRow _ _ _ _ _ _ _
            rw [HNX.out, HLN.out]
            exact hown5
          · have := row_lt HOWN.out j (Option.mem_toList.2 hj)
            omega
      · have hnx : noted d (evs.take (i + 1)) = xs := by rw [hsn, if_neg hd, List.append_nil]
        have HNX := Lib.hid hnx
        have HXM := Lib.hid hm
        clear c0 c1 c2 he hsl hsn hle1 hown hb hxs hm hk hnx
        go_wp2_with fail
        go_roundg (n - (i + 1))
        case measure => omega
        case rel =>
          refine ⟨i + 1, by omega, by go_num, ?_, HB.out⟩
          show World.ownsRow _ _ _ _ _ _ _
          rw [HNX.out, HXM.out]
          exact HOWN.out
    · have hin : i = n := by omega
      subst hin
      have HB := Lib.hid hb
      clear hb
      go_wp2_with fail
      go_ret
      have h := hown.out
      rw [List.take_of_length_le (by rw [HN.out]; exact Nat.le_refl _)] at h
      exact ⟨_, rfl, h, HB.out⟩


theorem times_cells {w : World} {vT : Value} {ts : List Int} (h : w.ownsRow 0 2 1 vT ts.length (ts.map fun x => .int .i64 x)) (hp : 0 < ts.length) :
    ∃ g sc, vT = .slice (some ⟨g, 0, none⟩) ts.length sc ∧ ts.length ≤ sc ∧ sc ≤ maxLen ∧ ∀ (i : Nat) (x : Int), ts[i]? = some x → w.cell? ⟨g, i, none⟩ = some (.int .i64 x) := by
  have hh := h
  rcases h.2 with ⟨rfl, e⟩ | ⟨g, cap, cur, rfl, hBg, hg, hnc, hcm, hcs, htk⟩
  · omega
  · refine ⟨g, cap, rfl, hnc, hcm, fun i x hx => ?_⟩
    have hc := hh.cells (g := g) rfl i (.int .i64 x) (by rw [List.getElem?_map, hx]; rfl)
    have hadd : (⟨g, 0, none⟩ : Addr).add i = ⟨g, 0 + i, none⟩ := by unfold Addr.add; split <;> simp_all
    rw [hadd, Nat.zero_add] at hc
    exact hc

theorem topT_take (ts : List Int) (i : Nat) (x : Int) (hi : 0 < i) (h : ts[i]? = some x) : topT (ts.take (i + 1)) = if topT (ts.take i) < x then x else topT (ts.take i) := by
  rw [List.take_add_one, h]
  show topT (ts.take i ++ [x]) = _
  rw [topT_snoc]
  have hl := (List.getElem?_eq_some_iff.1 h).1
  have : ts.take i ≠ [] := by
    intro e
    have := congrArg List.length e
    rw [List.length_take] at this
    simp only [List.length_nil] at this
    omega
  simp [this]

set_option maxRecDepth 100000 in
set_option maxHeartbeats 2000000 in
theorem greatest_any {w : World} {vT : Value} {ts : List Int} (h : w.ownsRow 0 2 1 vT ts.length (ts.map fun x => .int .i64 x)) (hp : 0 < ts.length) (hl : ts.length ≤ 4097) :
    Calls Tryd.prog 64 #[vT] w fun e w' => e = .returned (.int .i64 (topT ts)) ∧ w = w' := by
  obtain ⟨g, sc, rfl, hle, hcm, hc⟩ := times_cells h hp
  obtain ⟨n, hn⟩ : ∃ n, ts.length = n := ⟨_, rfl⟩
  rw [hn] at hp hl hle ⊢
  unfold maxLen at hcm
  have HC : Hid _ := hc
  have HN := Lib.hid hn
  obtain ⟨x0, hx0⟩ : ∃ x0, ts[0]? = some x0 := ⟨ts[0]'(by omega), by rw [List.getElem?_eq_getElem]⟩
  have c0 := hc 0 x0 hx0
  have ht0 : topT (ts.take 1) = x0 := by
    cases ts with
    | nil => cases hx0
    | cons a l => simp at hx0; subst hx0; rfl
  have HT0 := Lib.hid ht0
  clear h hc hn hx0 ht0
  go_enter Tryd.func64, Tryd.ntmps64
  go_wp2_with fail
  go_loopg [3, 4] (n - 1) (fun g v3 v4 wr => ∃ i : Nat, ∃ t : Int, 0 < i ∧ i ≤ n ∧ i + g = n ∧ v4 = .int .i64 i ∧ v3 = .int .i64 t ∧ Hid (topT (ts.take i) = t) ∧ wr = w)
  case atStart => exact ⟨1, x0, by omega, by omega, by omega, rfl, rfl, HT0, rfl⟩
  case round =>
    obtain ⟨i, t, hpi, hin', hi, rfl, rfl, ht, rfl⟩ := hrel
    by_cases hlt : i < n
    · obtain ⟨x, hx⟩ : ∃ x, ts[i]? = some x := ⟨ts[i]'(by rw [HN.out]; exact hlt), by rw [List.getElem?_eq_getElem]⟩
      have ci := HC.out i x hx
      have hs := topT_take ts i x hpi hx
      rw [ht.out] at hs
      have HS := Lib.hid hs
      clear hx hs
      by_cases hg : t < x
      · go_wp2_with fail
        go_roundg (n - (i + 1))
        case measure => omega
        case rel => exact ⟨i + 1, x, by omega, by omega, by omega, by go_num, rfl, by show _ = _; rw [HS.out, if_pos hg], rfl⟩
      · go_wp2_with fail
        go_roundg (n - (i + 1))
        case measure => omega
        case rel => exact ⟨i + 1, t, by omega, by omega, by omega, by go_num, rfl, by show _ = _; rw [HS.out, if_neg (by omega)], rfl⟩
    · have hin : i = n := by omega
      subst hin
      have h := ht.out
      rw [List.take_of_length_le (by rw [HN.out]; exact Nat.le_refl _)] at h
      have HH := Lib.hid h
      clear h ht
      go_wp2_with fail
      go_ret
      exact ⟨by rw [HH.out]; rfl, rfl⟩

set_option maxRecDepth 100000 in
set_option maxHeartbeats 2000000 in
theorem rr_room {w : World} {r : Nat} {m : Bool → Nat} {N : Nat} {s : RS} {ts : List Int} {Fs : Bool → List Nat} {v : Bool → Value} {vE vT : Value} {evl : List (Ev × Value)} {Q : List Nat} {col : Nat → Nat} (h : RR w r m N s ts Fs v vE vT evl Q col) (hn : Notes s) (n : Int) :
    Calls Tryd.prog 63 #[.pointer (some ⟨r, 0, none⟩), .int .i64 n] w fun e w' => e = .returned (.int .i64 (min (min n s.left) 65536)) ∧ Below w.heap.size w w' := by
  obtain ⟨t1, t2⟩ := total_two s.evs hn.evd
  have hsum := hn.sum
  have hlf := hn.lf
  have HSH := Lib.hid (h.shown hn.len)
  have HTL : Hid (total s.evs ≤ 262144) := by show _ ≤ _; omega
  have HEL := Lib.hid hn.len
  obtain ⟨n0, hn0⟩ : ∃ k, (noted 0 s.evs).length = k := ⟨_, rfl⟩
  obtain ⟨n1, hn1⟩ : ∃ k, (noted 1 s.evs).length = k := ⟨_, rfl⟩
  obtain ⟨left, hleft⟩ : ∃ l, s.left = l := ⟨_, rfl⟩
  rw [hn0, hn1] at t2
  rw [hleft] at hsum hlf ⊢
  have hlv : left = 262144 - (n0 : Int) - (n1 : Int) := by omega
  have hn01 : n0 + n1 ≤ 262144 := by omega
  have e1 : IntKind.i64.wrap (262144 - (n0 : Int)) = 262144 - n0 := IntWalk.i64_in _ (by omega)
  have e2 : IntKind.i64.wrap (262144 - (n0 : Int) - n1) = left := by rw [IntWalk.i64_in _ (by omega)]; omega
  have N1 := Lib.hid hn0
  have N2 := Lib.hid hn1
  have HS : Hid (∀ W, Below w.heap.size w W → Below w.heap.size w W ∧ W.cell? ⟨r, 2, none⟩ = some vE) := fun W hb => ⟨hb, (h.below hb).cells 2⟩
  clear h hn t1 t2 hsum hn0 hn1 hleft hlv
  go_enter Tryd.func63, Tryd.ntmps63
  go_upto_region 1 with fail
  go_cut [5] (fun v5 w' => v5 = .int .i64 left ∧ Below w.heap.size w w')
  case first =>
    refine wp_region_noPanic ?_
    refine wp_region_held_drew (S := fun W => Below w.heap.size w W ∧ W.cell? ⟨r, 2, none⟩ = some vE) (by kernel_rfl) (HS.out _ (below_drewN (Below.refl _ _) 1)) (fun hHeld => ?_)
    refine wpAnyH_take (i := 0) (oi := ⟨some 6, _, _, _, _, _⟩) (v := ?_) rfl (by kernel_rfl) (by kernel_rfl) (by kernel_rfl) (fun _ _ _ h => h) (Or.inl ⟨by rfl, ?_⟩) hHeld ?_
    rotate_left
    · intro w hSw; (try dsimp only at hSw); go_simp; try with_reducible rfl
    try simp only [Act.put, List.setIfInBounds_toArray, List.set_cons_zero, List.set_cons_succ]
    refine wpAnyH_take (i := 1) (oi := ⟨some 7, _, _, _, _, _⟩) (v := ?_) rfl (by kernel_rfl) (by kernel_rfl) (by kernel_rfl) (fun _ _ _ h => h) (Or.inl ⟨by rfl, ?_⟩) hHeld ?_
    rotate_left
    · intro w hSw; (try dsimp only at hSw); go_simp; try with_reducible rfl
    try simp only [Act.put, List.setIfInBounds_toArray, List.set_cons_zero, List.set_cons_succ]
    refine wpAnyH_take (i := 2) (oi := ⟨some 8, _, _, _, _, _⟩) (v := ?_) rfl (by kernel_rfl) (by kernel_rfl) (by kernel_rfl) (fun _ _ _ h => h) (Or.inl ⟨by rfl, ?_⟩) hHeld ?_
    rotate_left
    · intro w hSw; (try dsimp only at hSw); go_simp; try with_reducible rfl
    try simp only [Act.put, List.setIfInBounds_toArray, List.set_cons_zero, List.set_cons_succ]
    refine wpAnyH_take (i := 3) (oi := ⟨some 9, _, _, _, _, _⟩) (v := ?_) rfl (by kernel_rfl) (by kernel_rfl) (by kernel_rfl) (fun _ _ _ h => h) (Or.inl ⟨by rfl, ?_⟩) hHeld ?_
    rotate_left
    · intro w hSw; (try dsimp only at hSw); go_simp; try with_reducible rfl
    try simp only [Act.put, List.setIfInBounds_toArray, List.set_cons_zero, List.set_cons_succ]
    refine wpAnyH_take (i := 7) (oi := ⟨some 13, _, _, _, _, _⟩) (v := ?_) rfl (by kernel_rfl) (by kernel_rfl) (by kernel_rfl) (fun _ _ _ h => h) (Or.inl ⟨by rfl, ?_⟩) hHeld ?_
    rotate_left
    · intro w hSw; (try dsimp only at hSw); go_simp; try with_reducible rfl
    try simp only [Act.put, List.setIfInBounds_toArray, List.set_cons_zero, List.set_cons_succ]
    refine wpAnyH_take (i := 8) (oi := ⟨some 14, _, _, _, _, _⟩) (v := ?_) rfl (by kernel_rfl) (by kernel_rfl) (by kernel_rfl) (fun _ _ _ h => h) (Or.inl ⟨by rfl, ?_⟩) hHeld ?_
    rotate_left
    · intro w hSw; (try dsimp only at hSw); go_simp; try with_reducible rfl
    try simp only [Act.put, List.setIfInBounds_toArray, List.set_cons_zero, List.set_cons_succ]
    refine wpAnyH_take (i := 9) (oi := ⟨some 15, _, _, _, _, _⟩) (v := ?_) rfl (by kernel_rfl) (by kernel_rfl) (by kernel_rfl) (fun _ _ _ h => h) (Or.inl ⟨by rfl, ?_⟩) hHeld ?_
    rotate_left
    · intro w hSw; (try dsimp only at hSw); go_simp; try with_reducible rfl
    try simp only [Act.put, List.setIfInBounds_toArray, List.set_cons_zero, List.set_cons_succ]
    refine wpAnyH_take (i := 10) (oi := ⟨some 16, _, _, _, _, _⟩) (v := ?_) rfl (by kernel_rfl) (by kernel_rfl) (by kernel_rfl) (fun _ _ _ h => h) (Or.inl ⟨by rfl, ?_⟩) hHeld ?_
    rotate_left
    · intro w hSw; (try dsimp only at hSw); go_simp; try with_reducible rfl
    try simp only [Act.put, List.setIfInBounds_toArray, List.set_cons_zero, List.set_cons_succ]
    refine wpAnyH_ready (rs := [4]) (by kernel_rfl) (by simp) (AllReadyH.cons (o := ⟨some 10, _, _, _, _, _⟩) rfl (fun K hK => ?_) AllReadyH.nil)
    go_simp
    refine Calls.mono (ref_bytes_s (HSH.out.below hHeld.1) 0 HTL.out HEL.out) ?_; rintro e y1 ⟨u1, rfl, hown1, hb1⟩; rw [N1.out] at hown1; obtain ⟨a1, c1, rfl⟩ := own_form hown1; clear hown1
    refine hK.out _ _ (HS.out _ (hHeld.1.trans (hb1.mono hHeld.1.size))) (fun hHeld => ?_)
    clear hK K
    try simp only [Act.put, List.setIfInBounds_toArray, List.set_cons_zero, List.set_cons_succ]
    refine wpAnyH_take (i := 5) (oi := ⟨some 11, _, _, _, _, _⟩) (v := ?_) rfl (by kernel_rfl) (by kernel_rfl) (by kernel_rfl) (fun _ _ _ h => h) (Or.inl ⟨by rfl, ?_⟩) hHeld ?_
    rotate_left
    · intro w hSw; (try dsimp only at hSw); go_simp; try with_reducible rfl
    try simp only [Act.put, List.setIfInBounds_toArray, List.set_cons_zero, List.set_cons_succ]
    refine wpAnyH_take (i := 6) (oi := ⟨some 12, _, _, _, _, _⟩) (v := ?_) rfl (by kernel_rfl) (by kernel_rfl) (by kernel_rfl) (fun _ _ _ h => h) (Or.inl ⟨by rfl, ?_⟩) hHeld ?_
    rotate_left
    · intro w hSw; (try dsimp only at hSw); go_simp; try with_reducible rfl
    try simp only [Act.put, List.setIfInBounds_toArray, List.set_cons_zero, List.set_cons_succ]
    refine wpAnyH_ready (rs := [11]) (by kernel_rfl) (by simp) (AllReadyH.cons (o := ⟨some 17, _, _, _, _, _⟩) rfl (fun K hK => ?_) AllReadyH.nil)
    go_simp
    refine Calls.mono (ref_bytes_s (HSH.out.below hHeld.1) 1 HTL.out HEL.out) ?_; rintro e y2 ⟨u2, rfl, hown2, hb2⟩; rw [N2.out] at hown2; obtain ⟨a2, c2, rfl⟩ := own_form hown2; clear hown2
    refine hK.out _ _ (HS.out _ (hHeld.1.trans (hb2.mono hHeld.1.size))) (fun hHeld => ?_)
    clear hK K
    try simp only [Act.put, List.setIfInBounds_toArray, List.set_cons_zero, List.set_cons_succ]
    refine wpAnyH_take (i := 12) (oi := ⟨some 18, _, _, _, _, _⟩) (v := ?_) rfl (by kernel_rfl) (by kernel_rfl) (by kernel_rfl) (fun _ _ _ h => h) (Or.inl ⟨by rfl, ?_⟩) hHeld ?_
    rotate_left
    · intro w hSw; (try dsimp only at hSw); go_simp; try with_reducible rfl
    try simp only [Act.put, List.setIfInBounds_toArray, List.set_cons_zero, List.set_cons_succ]
    refine wpAnyH_take (i := 13) (oi := ⟨some 19, _, _, _, _, _⟩) (v := ?_) rfl (by kernel_rfl) (by kernel_rfl) (by kernel_rfl) (fun _ _ _ h => h) (Or.inl ⟨by rfl, ?_⟩) hHeld ?_
    rotate_left
    · intro w hSw; (try dsimp only at hSw); go_simp; try with_reducible rfl
    try simp only [Act.put, List.setIfInBounds_toArray, List.set_cons_zero, List.set_cons_succ]
    refine wpAnyH_take (i := 14) (oi := ⟨some 5, _, _, _, _, _⟩) (v := ?_) rfl (by kernel_rfl) (by kernel_rfl) (by kernel_rfl) (fun _ _ _ h => h) (Or.inl ⟨by rfl, ?_⟩) hHeld ?_
    rotate_left
    · intro w hSw; (try dsimp only at hSw); go_simp; try with_reducible rfl
    try simp only [Act.put, List.setIfInBounds_toArray, List.set_cons_zero, List.set_cons_succ]
    refine wpAnyH_done (by kernel_rfl) ?_ _
    refine NoPanic.normal ?_
    go_wp2_with fail
    go_meet
    exact ⟨rfl, hHeld.1⟩
  case rest =>
  obtain ⟨rfl, hb⟩ := hcut
  by_cases h1 : left < n
  · by_cases h2 : 65536 < left
    · have e : min (min n left) 65536 = 65536 := by omega
      go_wp2_with fail
      go_ret
      exact ⟨ret_num (by omega), hb⟩
    · have e : min (min n left) 65536 = left := by omega
      go_wp2_with fail
      go_ret
      exact ⟨ret_num (by omega), hb⟩
  · by_cases h2 : 65536 < n
    · have e : min (min n left) 65536 = 65536 := by omega
      go_wp2_with fail
      go_ret
      exact ⟨ret_num (by omega), hb⟩
    · have e : min (min n left) 65536 = n := by omega
      go_wp2_with fail
      go_ret
      exact ⟨ret_num (by omega), hb⟩

end Go.Proofs.YthpdphbppapkhaaDoor
