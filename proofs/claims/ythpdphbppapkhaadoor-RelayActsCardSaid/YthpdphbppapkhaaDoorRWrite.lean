/-
  The walk of the reference relay's write. Condition: what waits are at most 100 bytes.
-/
import Derived.Test.YthpdphbppapkhaaDoorRRoom
namespace Go.Proofs.YthpdphbppapkhaaDoor
open Go.RowKit qb

theorem Slc.bytes {w : World} {Q : List Nat} {a : Option Addr} {n c : Nat} {xs : List Int} (h : Slc w Q (.slice a n c) xs) (hu : ∀ z, z ∈ xs → U8 z) : IsBytes w a n c xs := by
  obtain ⟨a', n', c', e, h1, h2, h3, h4⟩ := h
  cases e
  refine ⟨h1, h2, h3, fun j hj => ?_⟩
  obtain ⟨b, off, e, _, hl, hc⟩ := h4 j hj
  refine ⟨b, off, e, hl, hc, hu _ ?_⟩
  have hj2 : j < xs.length := by omega
  rw [List.getD_eq_getElem?_getD, List.getElem?_eq_getElem hj2]
  exact List.getElem_mem hj2

theorem RGo.drew1 {w w3 : World} {r : Nat} {m : Bool → Nat} {N : Nat} {H : List Nat} {s : RS} {p : Addr} {u : Value} (h : RGo w (w3.setCell p u) r m N H s) : RGo w ((w3.drewN 1).setCell p u) r m N H s := by
  obtain ⟨H', h1, h2⟩ := h
  have hb : Below (w3.setCell p u).heap.size (w3.setCell p u) ((w3.setCell p u).drewN 1) := below_drewN (Below.refl _ _) 1
  exact ⟨H', h1.below hb, h2.trans (Gr.below hb)⟩

theorem rr_write_fin {w w3 : World} {r : Nat} {m : Bool → Nat} {N : Nat} {s : RS} {ts : List Int} {Fs : Bool → List Nat} {v : Bool → Value} {vE vT : Value} {evl : List (Ev × Value)} {Q : List Nat} {col : Nat → Nat} {d : Bool} {a : Option Addr} {k c j q : Nat} {F' : List Nat}
    (h : RR w r m N s ts Fs v vE vT evl Q col) (ht : TimesOk s ts) (hv : v d = .slice a k c) (hjk : j ≤ k) (hjq : j ≤ q) (hp : RefP w3 (m (!d)) F' N ((s.l (!d)).set d ((s.l (!d)).x d ++ ((s.w d).take q).take j) ((s.l (!d)).e d)))
    (hk : Keeps (Fs (!d)) w w3) (hs : ∀ x, x ∈ F' → x ∈ Fs (!d) ∨ w.heap.size ≤ x) (u : Value) (hu : u = .slice (from_ a c j) (k - j) (c - j)) :
    RGo w (w3.setCell ⟨r, if d then 6 else 5, none⟩ u) r m N (RH Fs r vE vT Q) (sentAs s d j) := by
  subst hu
  obtain ⟨⟨col', h1⟩, g1⟩ := h.line (!d) hp hk hs [] (fun _ h => by cases h)
  have hw : Slc w3 (Q ++ []) (.slice a k c) (s.w d) := by rw [← hv]; exact h1.hw d
  have h2 := h1.wait d (hw.drop hjk)
  have e : ((s.w d).take q).take j = (s.w d).take j := by rw [List.take_take, Nat.min_eq_left hjq]
  rw [e] at h2
  exact ⟨_, ⟨ts, _, _, vE, vT, evl, _, col', rfl, h2, ⟨ht.ok0, ht.ok1, ht.tl⟩⟩, g1.trans (gr_set _ _ _ _ _)⟩

set_option maxRecDepth 100000 in
set_option maxHeartbeats 4000000 in
theorem rr_write {w : World} {r : Nat} {m : Bool → Nat} {N : Nat} {s : RS} {H : List Nat} (h : RRel w r m N s H) (d : Bool) (side : Int) (hside : sd d = side) (n : Int) (hw : (s.w d).length ≤ 100) (hu : ∀ z, z ∈ s.w d → U8 z) :
    Calls Tryd.prog 58 #[.pointer (some ⟨r, 0, none⟩), .int .i64 side, .int .i64 n] w fun e w' => e = .returned (.bool (decide (0 < sentN s d n N))) ∧ RGo w w' r m N H (sent s d n N) := by
  obtain ⟨ts, Fs, v, vE, vT, evl, Q, col, rfl, h, ht⟩ := h
  have hsl := h.hw d
  obtain ⟨a, c, hv, hc1, hc2⟩ := hsl.form
  obtain ⟨k, hk⟩ : ∃ k, (s.w d).length = k := ⟨_, rfl⟩
  rw [hk] at hv hc1 hw
  rw [hv] at hsl
  obtain ⟨q, hq⟩ : ∃ q, count n k = q := ⟨_, rfl⟩
  have hqk : q ≤ k := by rw [← hq]; exact count_le _ _
  obtain ⟨j, hj⟩ : ∃ j, sentN s d n N = j := ⟨_, rfl⟩
  have hjt : took q ((s.l (!d)).x d).length N ((s.l (!d)).e d) = j := by rw [← hj, ← hq, ← hk]; rfl
  have hjq : j ≤ q := by rw [← hjt]; exact took_le _ _ _ _
  have hlp := h.hl (!d)
  obtain ⟨p, hp⟩ : ∃ p, m (!d) = p := ⟨_, rfl⟩
  have HWR := Lib.hid (ref_write hlp d (sd (!d)) rfl a q c ((s.w d).take q) ((hsl.cut hqk).bytes (fun z hz => hu z (List.mem_of_mem_take hz))) (by omega) _ _ rfl rfl)
  rw [hjt, hp] at HWR
  have FIN : Hid (∀ w3 F', RefP w3 p F' N ((s.l (!d)).set d ((s.l (!d)).x d ++ ((s.w d).take q).take j) ((s.l (!d)).e d)) → Keeps (Fs (!d)) w w3 → (∀ x, x ∈ F' → x ∈ Fs (!d) ∨ w.heap.size ≤ x) →
      (w3.cell? ⟨r, if d then 6 else 5, none⟩ = some (.slice a k c) ∧ w3.frozen? ⟨r, if d then 6 else 5, none⟩ = false) ∧ ∀ u, u = .slice (from_ a c j) (k - j) (c - j) → RGo w (w3.setCell ⟨r, if d then 6 else 5, none⟩ u) r m N (RH Fs r vE vT Q) (sentAs s d j)) := by
    intro w3 F' h1 h2 h3
    rw [← hp] at h1
    obtain ⟨⟨col', h4⟩, _⟩ := h.line (!d) h1 h2 h3 [] (fun _ h => by cases h)
    refine ⟨⟨?_, h4.frozen _⟩, fun u hu => rr_write_fin h ht hv (by omega) hjq h1 h2 h3 u hu⟩
    rw [h4.cells, ← hv]
    cases d <;> rfl
  have hmc : j ≤ c := by omega
  have hqc : q ≤ c := by omega
  have hjk : j ≤ k := by omega
  unfold maxLen at hc2
  have HQ := Lib.hid hq
  unfold sent
  rw [hj]
  cases d
  · have c1 : w.cell? ⟨r, 0, none⟩ = some (.pointer (some ⟨p, 0, none⟩)) := by rw [← hp]; exact h.cells 0
    have c4 : w.cell? ⟨r, 5, none⟩ = some (.slice a k c) := by rw [← hv]; exact h.cells 5
    simp only [sd, Bool.not_false, Bool.false_eq_true, if_false, if_true] at hside HWR FIN
    subst hside
    clear h ht hsl hv hk hq hj hjt hlp hp hw hu
    go_enter Tryd.func58, Tryd.ntmps58
    go_upto_if 18 with fail
    go_cut [2, 7] (fun v2 v7 w' => ∃ x, v2 = .int .i64 x ∧ v7 = .slice a q c ∧ w = w')
    case first =>
      by_cases h1 : n < (k : Int)
      · by_cases h2 : n < 0
        · have e : q = 0 := by rw [← HQ.out]; unfold count; omega
          subst e
          go_wp2_with fail
          go_meet
          exact ⟨_, rfl, rfl, rfl⟩
        · obtain ⟨n', rfl⟩ : ∃ n' : Nat, n = n' := ⟨n.toNat, by omega⟩
          have e : n' = q := by rw [← HQ.out]; unfold count; omega
          subst e
          go_wp2_with fail
          go_meet
          exact ⟨_, rfl, rfl, rfl⟩
      · have e : k = q := by rw [← HQ.out]; unfold count; omega
        subst e
        go_wp2_with fail
        go_meet
        exact ⟨_, rfl, rfl, rfl⟩
    case rest =>
    obtain ⟨x, rfl, rfl, rfl⟩ := hcut
    go_wp2_with fail
    refine Calls.mono HWR.out ?_
    rintro e w3 ⟨rfl, F', hp3, hk3, hs3⟩
    obtain ⟨⟨c5, cf⟩, hfw⟩ := FIN.out w3 F' hp3 hk3 hs3
    have FW : Hid (∀ u, u = .slice (from_ a c j) (k - j) (c - j) → RGo w ((w3.drewN 1).setCell ⟨r, 5, none⟩ u) r m N (RH Fs r vE vT Q) (sentAs s false j)) := fun u hu => (hfw u hu).drew1
    clear hp3 hk3 hs3 hfw HWR FIN
    go_upto_region 10 with fail
    refine wp_region_noPanic ?_
    refine wp_region_held_drew (S := fun _ => True) (by kernel_rfl) (trivial) (fun hHeld => ?_)
    refine wpAnyH_take (i := 0) (oi := ⟨some 38, _, _, _, _, _⟩) (v := ?_) rfl (by kernel_rfl) (by kernel_rfl) (by kernel_rfl) (fun _ _ _ h => h) (Or.inl ⟨by rfl, ?_⟩) trivial ?_
    rotate_left
    · intro w hSw; (try dsimp only at hSw); go_simp; try with_reducible rfl
    try simp only [Act.put, List.setIfInBounds_toArray, List.set_cons_zero, List.set_cons_succ]
    refine wpAnyH_take (i := 1) (oi := ⟨some 39, _, _, _, _, _⟩) (v := ?_) rfl (by kernel_rfl) (by kernel_rfl) (by kernel_rfl) (fun _ _ _ h => h) (Or.inl ⟨by rfl, ?_⟩) trivial ?_
    rotate_left
    · intro w hSw; (try dsimp only at hSw); go_simp; try with_reducible rfl
    try simp only [Act.put, List.setIfInBounds_toArray, List.set_cons_zero, List.set_cons_succ]
    refine wpAnyH_take (i := 2) (oi := ⟨some 40, _, _, _, _, _⟩) (v := ?_) rfl (by kernel_rfl) (by kernel_rfl) (by kernel_rfl) (fun _ _ _ h => h) (Or.inl ⟨by rfl, ?_⟩) trivial ?_
    rotate_left
    · intro w hSw; (try dsimp only at hSw); go_simp; try with_reducible rfl
    try simp only [Act.put, List.setIfInBounds_toArray, List.set_cons_zero, List.set_cons_succ]
    refine wpAnyH_take (i := 3) (oi := ⟨some 41, _, _, _, _, _⟩) (v := ?_) rfl (by kernel_rfl) (by kernel_rfl) (by kernel_rfl) (fun _ _ _ h => h) (Or.inl ⟨by rfl, ?_⟩) trivial ?_
    rotate_left
    · intro w hSw; (try dsimp only at hSw); go_simp; try with_reducible rfl
    try simp only [Act.put, List.setIfInBounds_toArray, List.set_cons_zero, List.set_cons_succ]
    refine wpAnyH_take (i := 4) (oi := ⟨some 42, _, _, _, _, _⟩) (v := ?_) rfl (by kernel_rfl) (by kernel_rfl) (by kernel_rfl) (fun _ _ _ h => h) (Or.inl ⟨by rfl, ?_⟩) trivial ?_
    rotate_left
    · intro w hSw; (try dsimp only at hSw); go_simp; try with_reducible rfl
    try simp only [Act.put, List.setIfInBounds_toArray, List.set_cons_zero, List.set_cons_succ]
    refine wpAnyH_take (i := 5) (oi := ⟨some 43, _, _, _, _, _⟩) (v := ?_) rfl (by kernel_rfl) (by kernel_rfl) (by kernel_rfl) (fun _ _ _ h => h) (Or.inl ⟨by rfl, ?_⟩) trivial ?_
    rotate_left
    · intro w hSw; (try dsimp only at hSw); go_simp; try with_reducible rfl
    try simp only [Act.put, List.setIfInBounds_toArray, List.set_cons_zero, List.set_cons_succ]
    refine wpAnyH_take (i := 6) (oi := ⟨some 44, _, _, _, _, _⟩) (v := ?_) rfl (by kernel_rfl) (by kernel_rfl) (by kernel_rfl) (fun _ _ _ h => h) (Or.inl ⟨by rfl, ?_⟩) trivial ?_
    rotate_left
    · intro w hSw; (try dsimp only at hSw); go_simp; try with_reducible rfl
    try simp only [Act.put, List.setIfInBounds_toArray, List.set_cons_zero, List.set_cons_succ]
    refine wpAnyH_take (i := 8) (oi := ⟨some 46, _, _, _, _, _⟩) (v := ?_) rfl (by kernel_rfl) (by kernel_rfl) (by kernel_rfl) (fun _ _ _ h => h) (Or.inl ⟨by rfl, ?_⟩) trivial ?_
    rotate_left
    · intro w hSw; (try dsimp only at hSw); go_simp; try with_reducible rfl
    try simp only [Act.put, List.setIfInBounds_toArray, List.set_cons_zero, List.set_cons_succ]
    refine wpAnyH_take (i := 10) (oi := ⟨some 48, _, _, _, _, _⟩) (v := ?_) rfl (by kernel_rfl) (by kernel_rfl) (by kernel_rfl) (fun _ _ _ h => h) (Or.inl ⟨by rfl, ?_⟩) trivial ?_
    rotate_left
    · intro w hSw; (try dsimp only at hSw); go_simp; try with_reducible rfl
    try simp only [Act.put, List.setIfInBounds_toArray, List.set_cons_zero, List.set_cons_succ]
    refine wpAnyH_take (i := 11) (oi := ⟨some 49, _, _, _, _, _⟩) (v := ?_) rfl (by kernel_rfl) (by kernel_rfl) (by kernel_rfl) (fun _ _ _ h => h) (Or.inl ⟨by rfl, ?_⟩) trivial ?_
    rotate_left
    · intro w hSw; (try dsimp only at hSw); go_simp; try with_reducible rfl
    try simp only [Act.put, List.setIfInBounds_toArray, List.set_cons_zero, List.set_cons_succ]
    refine wpAnyH_ready (rs := [7]) (by kernel_rfl) (by simp) (AllReadyH.cons (o := ⟨some 45, _, _, _, _, _⟩) rfl (fun K hK => ?_) AllReadyH.nil)
    go_simp
    refine hK.out _ _ (trivial) (fun hHeld => ?_)
    clear hK K
    try simp only [Act.put, List.setIfInBounds_toArray, List.set_cons_zero, List.set_cons_succ]
    by_cases hcj : c = j
    · refine wpAnyH_take (i := 9) (oi := ⟨some 47, _, _, _, _, _⟩) (v := ?_) rfl (by kernel_rfl) (by kernel_rfl) (by kernel_rfl) (fun _ _ _ h => h) (Or.inl ⟨by rfl, ?_⟩) trivial ?_
      rotate_left
      · intro w hSw; (try dsimp only at hSw); go_simp; try with_reducible rfl
      try simp only [Act.put, List.setIfInBounds_toArray, List.set_cons_zero, List.set_cons_succ]
      refine wpAnyH_take (i := 12) (oi := ⟨some 50, _, _, _, _, _⟩) (v := ?_) rfl (by kernel_rfl) (by kernel_rfl) (by kernel_rfl) (fun _ _ _ h => h) (Or.inl ⟨by rfl, ?_⟩) trivial ?_
      rotate_left
      · intro w hSw; (try dsimp only at hSw); go_simp; try with_reducible rfl
      try simp only [Act.put, List.setIfInBounds_toArray, List.set_cons_zero, List.set_cons_succ]
      refine wpAnyH_ready (rs := [13]) (by kernel_rfl) (by simp) (AllReadyH.cons (o := ⟨none, _, _, _, _, _⟩) rfl (fun K hK => ?_) AllReadyH.nil)
      go_simp
      refine hK.out _ _ (trivial) (fun hHeld => ?_)
      clear hK K
      try simp only [Act.put, List.setIfInBounds_toArray, List.set_cons_zero, List.set_cons_succ]
      refine wpAnyH_done (by kernel_rfl) ?_ _
      refine NoPanic.normal ?_
      go_wp2_with fail
      go_ret
      exact ⟨rfl, FW.out _ (from_end _ _ _ hcj)⟩
    · refine wpAnyH_take (i := 9) (oi := ⟨some 47, _, _, _, _, _⟩) (v := ?_) rfl (by kernel_rfl) (by kernel_rfl) (by kernel_rfl) (fun _ _ _ h => h) (Or.inl ⟨by rfl, ?_⟩) trivial ?_
      rotate_left
      · intro w hSw; (try dsimp only at hSw); go_simp; try with_reducible rfl
      try simp only [Act.put, List.setIfInBounds_toArray, List.set_cons_zero, List.set_cons_succ]
      refine wpAnyH_take (i := 12) (oi := ⟨some 50, _, _, _, _, _⟩) (v := ?_) rfl (by kernel_rfl) (by kernel_rfl) (by kernel_rfl) (fun _ _ _ h => h) (Or.inl ⟨by rfl, ?_⟩) trivial ?_
      rotate_left
      · intro w hSw; (try dsimp only at hSw); go_simp; try with_reducible rfl
      try simp only [Act.put, List.setIfInBounds_toArray, List.set_cons_zero, List.set_cons_succ]
      refine wpAnyH_ready (rs := [13]) (by kernel_rfl) (by simp) (AllReadyH.cons (o := ⟨none, _, _, _, _, _⟩) rfl (fun K hK => ?_) AllReadyH.nil)
      go_simp
      refine hK.out _ _ (trivial) (fun hHeld => ?_)
      clear hK K
      try simp only [Act.put, List.setIfInBounds_toArray, List.set_cons_zero, List.set_cons_succ]
      refine wpAnyH_done (by kernel_rfl) ?_ _
      refine NoPanic.normal ?_
      go_wp2_with fail
      go_ret
      exact ⟨rfl, FW.out _ (from_mid _ _ _ hcj)⟩
  · have c1 : w.cell? ⟨r, 1, none⟩ = some (.pointer (some ⟨p, 0, none⟩)) := by rw [← hp]; exact h.cells 1
    have c4 : w.cell? ⟨r, 6, none⟩ = some (.slice a k c) := by rw [← hv]; exact h.cells 6
    simp only [sd, Bool.not_true, Bool.false_eq_true, if_false, if_true] at hside HWR FIN
    subst hside
    clear h ht hsl hv hk hq hj hjt hlp hp hw hu
    go_enter Tryd.func58, Tryd.ntmps58
    go_upto_if 18 with fail
    go_cut [2, 7] (fun v2 v7 w' => ∃ x, v2 = .int .i64 x ∧ v7 = .slice a q c ∧ w = w')
    case first =>
      by_cases h1 : n < (k : Int)
      · by_cases h2 : n < 0
        · have e : q = 0 := by rw [← HQ.out]; unfold count; omega
          subst e
          go_wp2_with fail
          go_meet
          exact ⟨_, rfl, rfl, rfl⟩
        · obtain ⟨n', rfl⟩ : ∃ n' : Nat, n = n' := ⟨n.toNat, by omega⟩
          have e : n' = q := by rw [← HQ.out]; unfold count; omega
          subst e
          go_wp2_with fail
          go_meet
          exact ⟨_, rfl, rfl, rfl⟩
      · have e : k = q := by rw [← HQ.out]; unfold count; omega
        subst e
        go_wp2_with fail
        go_meet
        exact ⟨_, rfl, rfl, rfl⟩
    case rest =>
    obtain ⟨x, rfl, rfl, rfl⟩ := hcut
    go_wp2_with fail
    refine Calls.mono HWR.out ?_
    rintro e w3 ⟨rfl, F', hp3, hk3, hs3⟩
    obtain ⟨⟨c5, cf⟩, hfw⟩ := FIN.out w3 F' hp3 hk3 hs3
    have FW : Hid (∀ u, u = .slice (from_ a c j) (k - j) (c - j) → RGo w ((w3.drewN 1).setCell ⟨r, 6, none⟩ u) r m N (RH Fs r vE vT Q) (sentAs s true j)) := fun u hu => (hfw u hu).drew1
    clear hp3 hk3 hs3 hfw HWR FIN
    go_upto_region 10 with fail
    refine wp_region_noPanic ?_
    refine wp_region_held_drew (S := fun _ => True) (by kernel_rfl) (trivial) (fun hHeld => ?_)
    refine wpAnyH_take (i := 0) (oi := ⟨some 38, _, _, _, _, _⟩) (v := ?_) rfl (by kernel_rfl) (by kernel_rfl) (by kernel_rfl) (fun _ _ _ h => h) (Or.inl ⟨by rfl, ?_⟩) trivial ?_
    rotate_left
    · intro w hSw; (try dsimp only at hSw); go_simp; try with_reducible rfl
    try simp only [Act.put, List.setIfInBounds_toArray, List.set_cons_zero, List.set_cons_succ]
    refine wpAnyH_take (i := 1) (oi := ⟨some 39, _, _, _, _, _⟩) (v := ?_) rfl (by kernel_rfl) (by kernel_rfl) (by kernel_rfl) (fun _ _ _ h => h) (Or.inl ⟨by rfl, ?_⟩) trivial ?_
    rotate_left
    · intro w hSw; (try dsimp only at hSw); go_simp; try with_reducible rfl
    try simp only [Act.put, List.setIfInBounds_toArray, List.set_cons_zero, List.set_cons_succ]
    refine wpAnyH_take (i := 2) (oi := ⟨some 40, _, _, _, _, _⟩) (v := ?_) rfl (by kernel_rfl) (by kernel_rfl) (by kernel_rfl) (fun _ _ _ h => h) (Or.inl ⟨by rfl, ?_⟩) trivial ?_
    rotate_left
    · intro w hSw; (try dsimp only at hSw); go_simp; try with_reducible rfl
    try simp only [Act.put, List.setIfInBounds_toArray, List.set_cons_zero, List.set_cons_succ]
    refine wpAnyH_take (i := 3) (oi := ⟨some 41, _, _, _, _, _⟩) (v := ?_) rfl (by kernel_rfl) (by kernel_rfl) (by kernel_rfl) (fun _ _ _ h => h) (Or.inl ⟨by rfl, ?_⟩) trivial ?_
    rotate_left
    · intro w hSw; (try dsimp only at hSw); go_simp; try with_reducible rfl
    try simp only [Act.put, List.setIfInBounds_toArray, List.set_cons_zero, List.set_cons_succ]
    refine wpAnyH_take (i := 4) (oi := ⟨some 42, _, _, _, _, _⟩) (v := ?_) rfl (by kernel_rfl) (by kernel_rfl) (by kernel_rfl) (fun _ _ _ h => h) (Or.inl ⟨by rfl, ?_⟩) trivial ?_
    rotate_left
    · intro w hSw; (try dsimp only at hSw); go_simp; try with_reducible rfl
    try simp only [Act.put, List.setIfInBounds_toArray, List.set_cons_zero, List.set_cons_succ]
    refine wpAnyH_take (i := 5) (oi := ⟨some 43, _, _, _, _, _⟩) (v := ?_) rfl (by kernel_rfl) (by kernel_rfl) (by kernel_rfl) (fun _ _ _ h => h) (Or.inl ⟨by rfl, ?_⟩) trivial ?_
    rotate_left
    · intro w hSw; (try dsimp only at hSw); go_simp; try with_reducible rfl
    try simp only [Act.put, List.setIfInBounds_toArray, List.set_cons_zero, List.set_cons_succ]
    refine wpAnyH_take (i := 6) (oi := ⟨some 44, _, _, _, _, _⟩) (v := ?_) rfl (by kernel_rfl) (by kernel_rfl) (by kernel_rfl) (fun _ _ _ h => h) (Or.inl ⟨by rfl, ?_⟩) trivial ?_
    rotate_left
    · intro w hSw; (try dsimp only at hSw); go_simp; try with_reducible rfl
    try simp only [Act.put, List.setIfInBounds_toArray, List.set_cons_zero, List.set_cons_succ]
    refine wpAnyH_take (i := 8) (oi := ⟨some 46, _, _, _, _, _⟩) (v := ?_) rfl (by kernel_rfl) (by kernel_rfl) (by kernel_rfl) (fun _ _ _ h => h) (Or.inl ⟨by rfl, ?_⟩) trivial ?_
    rotate_left
    · intro w hSw; (try dsimp only at hSw); go_simp; try with_reducible rfl
    try simp only [Act.put, List.setIfInBounds_toArray, List.set_cons_zero, List.set_cons_succ]
    refine wpAnyH_take (i := 10) (oi := ⟨some 48, _, _, _, _, _⟩) (v := ?_) rfl (by kernel_rfl) (by kernel_rfl) (by kernel_rfl) (fun _ _ _ h => h) (Or.inl ⟨by rfl, ?_⟩) trivial ?_
    rotate_left
    · intro w hSw; (try dsimp only at hSw); go_simp; try with_reducible rfl
    try simp only [Act.put, List.setIfInBounds_toArray, List.set_cons_zero, List.set_cons_succ]
    refine wpAnyH_take (i := 11) (oi := ⟨some 49, _, _, _, _, _⟩) (v := ?_) rfl (by kernel_rfl) (by kernel_rfl) (by kernel_rfl) (fun _ _ _ h => h) (Or.inl ⟨by rfl, ?_⟩) trivial ?_
    rotate_left
    · intro w hSw; (try dsimp only at hSw); go_simp; try with_reducible rfl
    try simp only [Act.put, List.setIfInBounds_toArray, List.set_cons_zero, List.set_cons_succ]
    refine wpAnyH_ready (rs := [7]) (by kernel_rfl) (by simp) (AllReadyH.cons (o := ⟨some 45, _, _, _, _, _⟩) rfl (fun K hK => ?_) AllReadyH.nil)
    go_simp
    refine hK.out _ _ (trivial) (fun hHeld => ?_)
    clear hK K
    try simp only [Act.put, List.setIfInBounds_toArray, List.set_cons_zero, List.set_cons_succ]
    by_cases hcj : c = j
    · refine wpAnyH_take (i := 9) (oi := ⟨some 47, _, _, _, _, _⟩) (v := ?_) rfl (by kernel_rfl) (by kernel_rfl) (by kernel_rfl) (fun _ _ _ h => h) (Or.inl ⟨by rfl, ?_⟩) trivial ?_
      rotate_left
      · intro w hSw; (try dsimp only at hSw); go_simp; try with_reducible rfl
      try simp only [Act.put, List.setIfInBounds_toArray, List.set_cons_zero, List.set_cons_succ]
      refine wpAnyH_take (i := 12) (oi := ⟨some 50, _, _, _, _, _⟩) (v := ?_) rfl (by kernel_rfl) (by kernel_rfl) (by kernel_rfl) (fun _ _ _ h => h) (Or.inl ⟨by rfl, ?_⟩) trivial ?_
      rotate_left
      · intro w hSw; (try dsimp only at hSw); go_simp; try with_reducible rfl
      try simp only [Act.put, List.setIfInBounds_toArray, List.set_cons_zero, List.set_cons_succ]
      refine wpAnyH_ready (rs := [13]) (by kernel_rfl) (by simp) (AllReadyH.cons (o := ⟨none, _, _, _, _, _⟩) rfl (fun K hK => ?_) AllReadyH.nil)
      go_simp
      refine hK.out _ _ (trivial) (fun hHeld => ?_)
      clear hK K
      try simp only [Act.put, List.setIfInBounds_toArray, List.set_cons_zero, List.set_cons_succ]
      refine wpAnyH_done (by kernel_rfl) ?_ _
      refine NoPanic.normal ?_
      go_wp2_with fail
      go_ret
      exact ⟨rfl, FW.out _ (from_end _ _ _ hcj)⟩
    · refine wpAnyH_take (i := 9) (oi := ⟨some 47, _, _, _, _, _⟩) (v := ?_) rfl (by kernel_rfl) (by kernel_rfl) (by kernel_rfl) (fun _ _ _ h => h) (Or.inl ⟨by rfl, ?_⟩) trivial ?_
      rotate_left
      · intro w hSw; (try dsimp only at hSw); go_simp; try with_reducible rfl
      try simp only [Act.put, List.setIfInBounds_toArray, List.set_cons_zero, List.set_cons_succ]
      refine wpAnyH_take (i := 12) (oi := ⟨some 50, _, _, _, _, _⟩) (v := ?_) rfl (by kernel_rfl) (by kernel_rfl) (by kernel_rfl) (fun _ _ _ h => h) (Or.inl ⟨by rfl, ?_⟩) trivial ?_
      rotate_left
      · intro w hSw; (try dsimp only at hSw); go_simp; try with_reducible rfl
      try simp only [Act.put, List.setIfInBounds_toArray, List.set_cons_zero, List.set_cons_succ]
      refine wpAnyH_ready (rs := [13]) (by kernel_rfl) (by simp) (AllReadyH.cons (o := ⟨none, _, _, _, _, _⟩) rfl (fun K hK => ?_) AllReadyH.nil)
      go_simp
      refine hK.out _ _ (trivial) (fun hHeld => ?_)
      clear hK K
      try simp only [Act.put, List.setIfInBounds_toArray, List.set_cons_zero, List.set_cons_succ]
      refine wpAnyH_done (by kernel_rfl) ?_ _
      refine NoPanic.normal ?_
      go_wp2_with fail
      go_ret
      exact ⟨rfl, FW.out _ (from_mid _ _ _ hcj)⟩

end Go.Proofs.YthpdphbppapkhaaDoor
