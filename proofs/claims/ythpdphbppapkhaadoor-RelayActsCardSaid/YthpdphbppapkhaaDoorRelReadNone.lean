/-
  The walk of a relay's reading, where nothing is read; and a step. No condition.
-/
import Derived.Test.YthpdphbppapkhaaDoorRelReadGo
namespace Go.Proofs.YthpdphbppapkhaaDoor
open Go.RowKit qb

attribute [local go_sem] Oper.semAt_some

theorem none_mid {w w3 : World} {R : Nat} {ln : Bool → Nat} {N : Nat} {s : RS} {K : Nat} {Fs : Bool → List Nat} {v : Bool → Value} {vE : Value} {evl : List (Ev × Value)} {Q : List Nat} {col : Nat → Nat}
    (h : RelAt w R ln N s K Fs v vE evl Q col) (d : Bool) (hp : IsP w3 (ln d) (Fs d) N ((s.l d).set d (((s.l d).x d).drop 0) ((s.l d).e d))) (hk : Keeps (Fs d) (w.drewN 1) w3) :
    ∃ col', RelAt w3 R ln N s K Fs v vE evl Q col' ∧ Keeps (RelH Fs R K vE Q) w w3 := by
  have hk' : Keeps (Fs d) w w3 := ⟨hk.os, hk.tape, hk.output, hk.size, hk.block⟩
  have h1 := h.line d hp hk' (fun _ h => .inl h)
  rw [upd_self, List.drop_zero, set_self, upd_self] at h1
  exact ⟨_, h1, ⟨hk.os, hk.tape, hk.output, hk.size, fun x h1 h2 => hk.block x h1 (fun h3 => h2 (mem_relH.2 (.inl ⟨d, h3⟩)))⟩⟩

/-- What it leaves. -/
def outS (s : RS) (d o : Bool) : RS := if o then hung s d else s

theorem none_end {w w3 : World} {R : Nat} {ln : Bool → Nat} {N : Nat} {s : RS} {K : Nat} {Fs : Bool → List Nat} {v : Bool → Value} {vE : Value} {evl : List (Ev × Value)} {Q : List Nat} {col3 : Nat → Nat}
    (h : RelAt w3 R ln N s K Fs v vE evl Q col3) (hk : Keeps (RelH Fs R K vE Q) w w3) (n : Nat) : Stepped w R ln N (RelH Fs R K vE Q) s false (.returned (.bool false)) (w3.drewN n) :=
  ⟨rfl, _, ⟨K, Fs, v, vE, evl, Q, col3, rfl, h.below (below_drewN (Below.refl _ _) n)⟩, hk.trans (Keeps.of_below (below_drewN (Below.refl _ _) n) _) (fun _ h => .inl h), fun _ h => .inl h⟩

theorem over_end {w w3 w5 : World} {R : Nat} {ln : Bool → Nat} {N : Nat} {s : RS} {K : Nat} {Fs : Bool → List Nat} {v : Bool → Value} {vE : Value} {evl : List (Ev × Value)} {Q : List Nat} {col4 : Nat → Nat} {d : Bool}
    (hk3 : Keeps (RelH Fs R K vE Q) w w3) (hk4 : Keeps [R] w3 w5) {w6 : World} (h5 : RelAt w5 R ln N { s with o := upd s.o d true } K Fs v vE evl Q col4)
    (hp : IsP w6 (ln (!d)) (Fs (!d)) N ((s.l (!d)).set d ((s.l (!d)).x d) true)) (hk : Keeps (Fs (!d)) w5 w6) :
    Stepped w R ln N (RelH Fs R K vE Q) (hung s d) true (.returned (.bool true)) w6 := by
  have h6 := h5.line (!d) hp hk (fun _ h => .inl h)
  rw [upd_self] at h6
  have k4 : Keeps (RelH Fs R K vE Q) w3 w5 := ⟨hk4.os, hk4.tape, hk4.output, hk4.size, fun x h1 h2 => hk4.block x h1 (fun h3 => h2 (by
    obtain rfl : x = R := by simpa using h3
    exact mem_relH.2 (.inr (.inl rfl))))⟩
  have k6 : Keeps (RelH Fs R K vE Q) w5 w6 := ⟨hk.os, hk.tape, hk.output, hk.size, fun x h1 h2 => hk.block x h1 (fun h3 => h2 (mem_relH.2 (.inl ⟨_, h3⟩)))⟩
  exact ⟨rfl, _, ⟨K, _, v, vE, evl, Q, _, rfl, h6⟩, (hk3.trans k4 (fun _ h => .inl h)).trans k6 (fun _ h => .inl h), fun _ h => .inl h⟩

set_option maxRecDepth 100000 in
set_option maxHeartbeats 8000000 in
theorem read_none {w : World} {R : Nat} {ln : Bool → Nat} {N : Nat} {s : RS} {H : List Nat} (h : Rel w R ln N s H) (d : Bool) (side : Int) (hside : sd d = side) (n t : Int) (hc : ¬ cannot s d n) (hk : readN s d n = 0) (o : Bool) (ho : isOver s d = o) :
    Calls Tryd.prog 54 #[.pointer (some ⟨R, 0, none⟩), .int .i64 side, .int .i64 n, .int .i64 t] w (Stepped w R ln N H (outS s d o) o) := by
  obtain ⟨Kc, Fs, v, vE, evl, Q, col, rfl, h⟩ := h
  obtain ⟨a, c, hv, _, _⟩ := (h.hw d).form
  obtain ⟨sp, sc, hE⟩ : ∃ sp sc, vE = .slice sp s.evs.length sc := by
    rcases h.row.2 with ⟨rfl, e⟩ | ⟨g, cap, cur, rfl, _⟩
    · exact ⟨none, 0, by rw [e]⟩
    · exact ⟨_, _, rfl⟩
  obtain ⟨m, hm⟩ : ∃ m, s.evs.length = m := ⟨_, rfl⟩
  obtain ⟨lf, hlf⟩ : ∃ lf, s.left = lf := ⟨_, rfl⟩
  have hlb := h.lf
  have hlen := h.len
  unfold cannot at hc
  simp only [not_or] at hc
  obtain ⟨e1, e2, e3, e4, e5⟩ := hc
  rw [Bool.not_eq_true] at e2 e3
  have hk0 : (s.w d).length = 0 := by omega
  rw [hk0] at hv
  rw [hm] at hE hlen e5
  rw [hlf] at hlb
  obtain ⟨x, hx⟩ : ∃ x, min (min n 65536) lf = x := ⟨_, rfl⟩
  have hkc : count x ((s.l d).x d).length = 0 := by rw [← hk, ← hx, ← hlf]; rfl
  have HX := Lib.hid hx
  obtain ⟨p, hp⟩ : ∃ p, ln d = p := ⟨_, rfl⟩
  have hmz : ((m : Int) == 4096) = false := by simp; omega
  have cj := fun j => h.cells j
  have c0 : w.cell? ⟨R, 5, none⟩ = some (.bool false) := by rw [← e3]; exact cj 5
  have c13 : w.cell? ⟨R, 13, none⟩ = some (.slice sp m sc) := by rw [← hE]; exact cj 13
  have c14 : w.cell? ⟨R, 14, none⟩ = some (.int .i64 lf) := by rw [← hlf]; exact cj 14
  have HA := Lib.hid h
  have HKC := Lib.hid hkc
  have HP := Lib.hid hp
  have HV := Lib.hid hv
  have HE := Lib.hid hE
  have HM := Lib.hid hm
  have HLF := Lib.hid hlf
  have HC : Hid (¬ cannot s d n) := by unfold cannot; show ¬ _; simp only [not_or]; exact ⟨e1, by rw [e2]; simp, by rw [e3]; simp, e4, by rw [hm]; exact e5⟩
  have HPL : Hid (IsP (w.drewN 1) p (Fs d) N (s.l d)) := by rw [← hp]; exact (h.hl d).drewN 1
  have HPT : Hid (∀ {w3 : World} (l' : Line), IsP w3 p (Fs d) N l' → IsP w3 (ln d) (Fs d) N l') := fun l' h => by rw [hp]; exact h
  have HO2 := Lib.hid e2
  have HOO : Hid (((s.l d).e d && decide (((s.l d).x d).length = 0)) = o) := ho
  clear ho
  cases d
  · have g0 : w.cell? ⟨R, 0, none⟩ = some (.pointer (some ⟨p, 0, none⟩)) := by rw [← hp]; exact cj 0
    have g2 : w.cell? ⟨R, 2, none⟩ = some (.int .i64 0) := cj 2
    have g4 : w.cell? ⟨R, 4, none⟩ = some (.slice a 0 c) := by rw [← hv]; exact cj 4
    have g5 : w.cell? ⟨R, 5, none⟩ = some (.bool false) := by rw [← e2]; exact cj 5
    obtain ⟨q, hq⟩ : ∃ q, ln (!false) = q := ⟨_, rfl⟩
    have HQT := Lib.hid hq
    simp only [sd, Bool.false_eq_true, if_false] at hside
    subst hside
    clear h hx hkc hp hv hE hm hlf cj hk e1 e2 e3 e5 hk0 hq
    go_enter Tryd.func54, Tryd.ntmps54
    go_wp2_with fail
    refine wp_region_noPanic ?_
    refine wp_region_held_drew (S := fun w' => w'.cell? ⟨R, 0, none⟩ = some (.pointer (some ⟨p, 0, none⟩)) ∧ w'.cell? ⟨R, 2, none⟩ = some (.int .i64 0) ∧ w'.cell? ⟨R, 14, none⟩ = some (.int .i64 lf)) (by kernel_rfl) (⟨g0, g2, c14⟩) (fun hHeld => ?_)
    refine wpAnyH_take (i := 0) (oi := ⟨some 48, _, _, _, _, _⟩) (v := ?_) rfl (by kernel_rfl) (by kernel_rfl) (by kernel_rfl) (fun _ _ _ h => h) (Or.inl ⟨by rfl, ?_⟩) hHeld ?_
    rotate_left
    · intro w hSw; (try dsimp only at hSw); go_simp; try with_reducible rfl
    try simp only [Act.put, List.setIfInBounds_toArray, List.set_cons_zero, List.set_cons_succ]
    refine wpAnyH_take (i := 1) (oi := ⟨some 49, _, _, _, _, _⟩) (v := ?_) rfl (by kernel_rfl) (by kernel_rfl) (by kernel_rfl) (fun _ _ _ h => h) (Or.inl ⟨by rfl, ?_⟩) hHeld ?_
    rotate_left
    · intro w hSw; (try dsimp only at hSw); go_simp; try with_reducible rfl
    try simp only [Act.put, List.setIfInBounds_toArray, List.set_cons_zero, List.set_cons_succ]
    refine wpAnyH_take (i := 2) (oi := ⟨some 50, _, _, _, _, _⟩) (v := ?_) rfl (by kernel_rfl) (by kernel_rfl) (by kernel_rfl) (fun _ _ _ h => h) (Or.inl ⟨by rfl, ?_⟩) hHeld ?_
    rotate_left
    · intro w hSw; (try dsimp only at hSw); go_simp; try with_reducible rfl
    try simp only [Act.put, List.setIfInBounds_toArray, List.set_cons_zero, List.set_cons_succ]
    refine wpAnyH_take (i := 3) (oi := ⟨some 51, _, _, _, _, _⟩) (v := ?_) rfl (by kernel_rfl) (by kernel_rfl) (by kernel_rfl) (fun _ _ _ h => h) (Or.inl ⟨by rfl, ?_⟩) hHeld ?_
    rotate_left
    · intro w hSw; (try dsimp only at hSw); go_simp; try with_reducible rfl
    try simp only [Act.put, List.setIfInBounds_toArray, List.set_cons_zero, List.set_cons_succ]
    refine wpAnyH_take (i := 4) (oi := ⟨some 52, _, _, _, _, _⟩) (v := ?_) rfl (by kernel_rfl) (by kernel_rfl) (by kernel_rfl) (fun _ _ _ h => h) (Or.inl ⟨by rfl, ?_⟩) hHeld ?_
    rotate_left
    · intro w hSw; (try dsimp only at hSw); go_simp; try with_reducible rfl
    try simp only [Act.put, List.setIfInBounds_toArray, List.set_cons_zero, List.set_cons_succ]
    refine wpAnyH_take (i := 5) (oi := ⟨some 53, _, _, _, _, _⟩) (v := ?_) rfl (by kernel_rfl) (by kernel_rfl) (by kernel_rfl) (fun _ _ _ h => h) (Or.inl ⟨by rfl, ?_⟩) hHeld ?_
    rotate_left
    · intro w hSw; (try dsimp only at hSw); go_simp; try with_reducible rfl
    try simp only [Act.put, List.setIfInBounds_toArray, List.set_cons_zero, List.set_cons_succ]
    refine wpAnyH_take (i := 6) (oi := ⟨some 54, _, _, _, _, _⟩) (v := ?_) rfl (by kernel_rfl) (by kernel_rfl) (by kernel_rfl) (fun _ _ _ h => h) (Or.inl ⟨by rfl, ?_⟩) hHeld ?_
    rotate_left
    · intro w hSw; (try dsimp only at hSw); go_simp; try with_reducible rfl
    try simp only [Act.put, List.setIfInBounds_toArray, List.set_cons_zero, List.set_cons_succ]
    refine wpAnyH_take (i := 7) (oi := ⟨some 55, _, _, _, _, _⟩) (v := ?_) rfl (by kernel_rfl) (by kernel_rfl) (by kernel_rfl) (fun _ _ _ h => h) (Or.inl ⟨by rfl, ?_⟩) hHeld ?_
    rotate_left
    · intro w hSw; (try dsimp only at hSw); go_simp; try with_reducible rfl
    try simp only [Act.put, List.setIfInBounds_toArray, List.set_cons_zero, List.set_cons_succ]
    refine wpAnyH_take (i := 8) (oi := ⟨some 56, _, _, _, _, _⟩) (v := ?_) rfl (by kernel_rfl) (by kernel_rfl) (by kernel_rfl) (fun _ _ _ h => h) (Or.inl ⟨by rfl, ?_⟩) hHeld ?_
    rotate_left
    · intro w hSw; (try dsimp only at hSw); go_simp; try with_reducible rfl
    try simp only [Act.put, List.setIfInBounds_toArray, List.set_cons_zero, List.set_cons_succ]
    refine wpAnyH_take (i := 9) (oi := ⟨some 57, _, _, _, _, _⟩) (v := ?_) rfl (by kernel_rfl) (by kernel_rfl) (by kernel_rfl) (fun _ _ _ h => h) (Or.inl ⟨by rfl, ?_⟩) hHeld ?_
    rotate_left
    · intro w hSw; (try dsimp only at hSw); go_simp; try with_reducible rfl
    try simp only [Act.put, List.setIfInBounds_toArray, List.set_cons_zero, List.set_cons_succ]
    refine wpAnyH_take (i := 10) (oi := ⟨some 58, _, _, _, _, _⟩) (v := ?_) rfl (by kernel_rfl) (by kernel_rfl) (by kernel_rfl) (fun _ _ _ h => h) (Or.inl ⟨by rfl, ?_⟩) hHeld ?_
    rotate_left
    · intro w hSw; (try dsimp only at hSw); go_simp; try with_reducible rfl
    try simp only [Act.put, List.setIfInBounds_toArray, List.set_cons_zero, List.set_cons_succ]
    refine wpAnyH_take (i := 11) (oi := ⟨some 59, _, _, _, _, _⟩) (v := ?_) rfl (by kernel_rfl) (by kernel_rfl) (by kernel_rfl) (fun _ _ _ h => h) (Or.inl ⟨by rfl, ?_⟩) hHeld ?_
    rotate_left
    · intro w hSw; (try dsimp only at hSw); go_simp; try with_reducible rfl
    try simp only [Act.put, List.setIfInBounds_toArray, List.set_cons_zero, List.set_cons_succ]
    refine wpAnyH_take (i := 12) (oi := ⟨some 60, _, _, _, _, _⟩) (v := ?_) rfl (by kernel_rfl) (by kernel_rfl) (by kernel_rfl) (fun _ _ _ h => h) (Or.inl ⟨by rfl, ?_⟩) hHeld ?_
    rotate_left
    · intro w hSw; (try dsimp only at hSw); go_simp; try with_reducible rfl
    try simp only [Act.put, List.setIfInBounds_toArray, List.set_cons_zero, List.set_cons_succ]
    refine wpAnyH_take (i := 13) (oi := ⟨some 61, _, _, _, _, _⟩) (v := .int .i64 x) rfl (by kernel_rfl) (by kernel_rfl) (by kernel_rfl) (fun _ _ _ h => h) (Or.inl ⟨by rfl, ?_⟩) hHeld ?_
    · intro w hSw; go_simp; have hx := HX.out; repeat' split; all_goals omega
    try simp only [Act.put, List.setIfInBounds_toArray, List.set_cons_zero, List.set_cons_succ]
    refine wpAnyH_ready (rs := [14]) (by kernel_rfl) (by simp) (AllReadyH.cons (o := ⟨some 62, _, _, _, _, _⟩) rfl (fun K hK => ?_) AllReadyH.nil)
    go_simp
    refine (p_read_at (w := w.drewN 1) (F := Fs false) (n := N) (s := s.l false) HPL.out false 0 rfl x ((s.l false).x false) ((s.l false).e false) rfl rfl).mono ?_; rw [HKC.out]; rintro e3 w3 ⟨bp, bc, rfl, hown3, hp3, hk3⟩; obtain ⟨col3, hR3, hk3⟩ := none_mid HA.out false (HPT.out _ hp3) hk3; have HR3 := Lib.hid hR3; have HK3 := Lib.hid hk3; have d0 : w3.cell? ⟨R, 0, none⟩ = some (.pointer (some ⟨p, 0, none⟩)) := (by rw [← HP.out]; exact hR3.cells 0); have d2 : w3.cell? ⟨R, 2, none⟩ = some (.int .i64 0) := hR3.cells 2; have d14 : w3.cell? ⟨R, 14, none⟩ = some (.int .i64 lf) := (by rw [← HLF.out]; exact hR3.cells 14); have d5 : w3.cell? ⟨R, 5, none⟩ = some (.bool false) := (by rw [← HO2.out]; exact hR3.cells 5); have f5 : w3.frozen? ⟨R, 5, none⟩ = false := frozen_of_row _ _ _ _ _ hR3.hR; have HPQ : Hid (IsP w3 p (Fs false) N (s.l false)) := (by rw [← HP.out]; exact hR3.hl false); clear hown3 hp3 hk3 hR3
    refine hK.out _ _ (⟨d0, d2, d14⟩) (fun hHeld => ?_)
    clear hK K
    try simp only [Act.put, List.setIfInBounds_toArray, List.set_cons_zero, List.set_cons_succ]
    refine wpAnyH_take (i := 15) (oi := ⟨some 10, _, _, _, _, _⟩) (v := ?_) rfl (by kernel_rfl) (by kernel_rfl) (by kernel_rfl) (fun _ _ _ h => h) (Or.inl ⟨by rfl, ?_⟩) hHeld ?_
    rotate_left
    · intro w hSw; (try dsimp only at hSw); go_simp; try with_reducible rfl
    try simp only [Act.put, List.setIfInBounds_toArray, List.set_cons_zero, List.set_cons_succ]
    refine wpAnyH_done (by kernel_rfl) ?_ _
    refine NoPanic.normal ?_
    cases o
    · go_wp2_with fail
      go_quiet ((go_at_call 19; exact p_over_q HPQ.out false 0 rfl false HOO.out _))
      go_wp2_with fail
      go_ret
      exact none_end HR3.out HK3.out _
    · go_wp2_with fail
      go_quiet ((go_at_call 19; exact p_over_q HPQ.out false 0 rfl true HOO.out _))
      have hR5 := (HR3.out.below (below_drewN (Below.refl _ _) nq)).over false
      have HR5 := Lib.hid hR5
      have x0 : (w3.drewN nq).cell? ⟨R, 5, none⟩ = some (.bool false) := d5
      have x1 : (w3.drewN nq).frozen? ⟨R, 5, none⟩ = false := f5
      have HK5 : Hid (Keeps [R] w3 ((w3.drewN nq).setCell ⟨R, 5, none⟩ (.bool true))) := (Keeps.of_below (below_drewN (Below.refl _ _) nq) [R]).trans setR_keeps (fun _ h => .inl h)
      go_upto_region 13 with fail
      obtain ⟨w5, hw5⟩ : ∃ w5, (w3.drewN nq).setCell ⟨R, 5, none⟩ (.bool true) = w5 := ⟨_, rfl⟩
      rw [hw5]
      simp only [Bool.false_eq_true, if_false] at HR5
      rw [hw5] at HR5 HK5
      have y1 : w5.cell? ⟨R, 1, none⟩ = some (.pointer (some ⟨q, 0, none⟩)) := by rw [← HQT.out]; exact HR5.out.cells 1
      have y3 : w5.cell? ⟨R, 3, none⟩ = some (.int .i64 1) := HR5.out.cells 3
      have HPH : Hid (IsP (w5.drewN 1) q (Fs (!false)) N (s.l (!false))) := by rw [← HQT.out]; exact (HR5.out.hl (!false)).drewN 1
      clear hw5 x0 x1 hR5 d0 d2 d5 f5
      refine wp_region_noPanic ?_
      refine wp_region_held_drew (S := fun w' => w'.cell? ⟨R, 1, none⟩ = some (.pointer (some ⟨q, 0, none⟩)) ∧ w'.cell? ⟨R, 3, none⟩ = some (.int .i64 1)) (by kernel_rfl) (⟨y1, y3⟩) (fun hHeld => ?_)
      refine wpAnyH_take (i := 0) (oi := ⟨some 111, _, _, _, _, _⟩) (v := ?_) rfl (by kernel_rfl) (by kernel_rfl) (by kernel_rfl) (fun _ _ _ h => h) (Or.inl ⟨by rfl, ?_⟩) hHeld ?_
      rotate_left
      · intro w hSw; (try dsimp only at hSw); go_simp; try with_reducible rfl
      try simp only [Act.put, List.setIfInBounds_toArray, List.set_cons_zero, List.set_cons_succ]
      refine wpAnyH_take (i := 1) (oi := ⟨some 112, _, _, _, _, _⟩) (v := ?_) rfl (by kernel_rfl) (by kernel_rfl) (by kernel_rfl) (fun _ _ _ h => h) (Or.inl ⟨by rfl, ?_⟩) hHeld ?_
      rotate_left
      · intro w hSw; (try dsimp only at hSw); go_simp; try with_reducible rfl
      try simp only [Act.put, List.setIfInBounds_toArray, List.set_cons_zero, List.set_cons_succ]
      refine wpAnyH_take (i := 2) (oi := ⟨some 113, _, _, _, _, _⟩) (v := ?_) rfl (by kernel_rfl) (by kernel_rfl) (by kernel_rfl) (fun _ _ _ h => h) (Or.inl ⟨by rfl, ?_⟩) hHeld ?_
      rotate_left
      · intro w hSw; (try dsimp only at hSw); go_simp; try with_reducible rfl
      try simp only [Act.put, List.setIfInBounds_toArray, List.set_cons_zero, List.set_cons_succ]
      refine wpAnyH_take (i := 3) (oi := ⟨some 114, _, _, _, _, _⟩) (v := ?_) rfl (by kernel_rfl) (by kernel_rfl) (by kernel_rfl) (fun _ _ _ h => h) (Or.inl ⟨by rfl, ?_⟩) hHeld ?_
      rotate_left
      · intro w hSw; (try dsimp only at hSw); go_simp; try with_reducible rfl
      try simp only [Act.put, List.setIfInBounds_toArray, List.set_cons_zero, List.set_cons_succ]
      refine wpAnyH_take (i := 4) (oi := ⟨some 115, _, _, _, _, _⟩) (v := ?_) rfl (by kernel_rfl) (by kernel_rfl) (by kernel_rfl) (fun _ _ _ h => h) (Or.inl ⟨by rfl, ?_⟩) hHeld ?_
      rotate_left
      · intro w hSw; (try dsimp only at hSw); go_simp; try with_reducible rfl
      try simp only [Act.put, List.setIfInBounds_toArray, List.set_cons_zero, List.set_cons_succ]
      refine wpAnyH_take (i := 5) (oi := ⟨some 116, _, _, _, _, _⟩) (v := ?_) rfl (by kernel_rfl) (by kernel_rfl) (by kernel_rfl) (fun _ _ _ h => h) (Or.inl ⟨by rfl, ?_⟩) hHeld ?_
      rotate_left
      · intro w hSw; (try dsimp only at hSw); go_simp; try with_reducible rfl
      try simp only [Act.put, List.setIfInBounds_toArray, List.set_cons_zero, List.set_cons_succ]
      refine wpAnyH_take (i := 6) (oi := ⟨some 117, _, _, _, _, _⟩) (v := ?_) rfl (by kernel_rfl) (by kernel_rfl) (by kernel_rfl) (fun _ _ _ h => h) (Or.inl ⟨by rfl, ?_⟩) hHeld ?_
      rotate_left
      · intro w hSw; (try dsimp only at hSw); go_simp; try with_reducible rfl
      try simp only [Act.put, List.setIfInBounds_toArray, List.set_cons_zero, List.set_cons_succ]
      refine wpAnyH_take (i := 7) (oi := ⟨some 118, _, _, _, _, _⟩) (v := ?_) rfl (by kernel_rfl) (by kernel_rfl) (by kernel_rfl) (fun _ _ _ h => h) (Or.inl ⟨by rfl, ?_⟩) hHeld ?_
      rotate_left
      · intro w hSw; (try dsimp only at hSw); go_simp; try with_reducible rfl
      try simp only [Act.put, List.setIfInBounds_toArray, List.set_cons_zero, List.set_cons_succ]
      refine wpAnyH_ready (rs := [8]) (by kernel_rfl) (by simp) (AllReadyH.cons (o := ⟨some 119, _, _, _, _, _⟩) rfl (fun K hK => ?_) AllReadyH.nil)
      go_simp
      refine (p_hang (w := w5.drewN 1) (F := Fs (!false)) (n := N) (s := s.l (!false)) HPH.out false 1 rfl).mono ?_; rintro e6 w6 ⟨rfl, hp6, hk6⟩; rw [← HQT.out] at hp6; have HF := Lib.hid (over_end HK3.out (HK5.out.trans (Keeps.of_below (below_drewN (Below.refl _ _) 1) [R]) (fun _ h => .inl h)) (HR5.out.below (below_drewN (Below.refl _ _) 1)) hp6 hk6); have z1 : w6.cell? ⟨R, 1, none⟩ = some (.pointer (some ⟨q, 0, none⟩)) := (by rw [← HQT.out]; exact ((HR5.out.below (below_drewN (Below.refl _ _) 1)).line (!false) hp6 hk6 (fun _ h => .inl h)).cells 1); have z3 : w6.cell? ⟨R, 3, none⟩ = some (.int .i64 1) := ((HR5.out.below (below_drewN (Below.refl _ _) 1)).line (!false) hp6 hk6 (fun _ h => .inl h)).cells 3; clear hp6 hk6
      refine hK.out _ _ (⟨z1, z3⟩) (fun hHeld => ?_)
      clear hK K
      try simp only [Act.put, List.setIfInBounds_toArray, List.set_cons_zero, List.set_cons_succ]
      refine wpAnyH_done (by kernel_rfl) ?_ _
      refine NoPanic.normal ?_
      go_wp2_with fail
      go_ret
      exact HF.out
  · have g0 : w.cell? ⟨R, 6, none⟩ = some (.pointer (some ⟨p, 0, none⟩)) := by rw [← hp]; exact cj 6
    have g2 : w.cell? ⟨R, 8, none⟩ = some (.int .i64 1) := cj 8
    have g4 : w.cell? ⟨R, 10, none⟩ = some (.slice a 0 c) := by rw [← hv]; exact cj 10
    have g5 : w.cell? ⟨R, 11, none⟩ = some (.bool false) := by rw [← e2]; exact cj 11
    obtain ⟨q, hq⟩ : ∃ q, ln (!true) = q := ⟨_, rfl⟩
    have HQT := Lib.hid hq
    simp only [sd, if_true] at hside
    subst hside
    clear h hx hkc hp hv hE hm hlf cj hk e1 e2 e3 e5 hk0 hq
    go_enter Tryd.func54, Tryd.ntmps54
    go_wp2_with fail
    refine wp_region_noPanic ?_
    refine wp_region_held_drew (S := fun w' => w'.cell? ⟨R, 6, none⟩ = some (.pointer (some ⟨p, 0, none⟩)) ∧ w'.cell? ⟨R, 8, none⟩ = some (.int .i64 1) ∧ w'.cell? ⟨R, 14, none⟩ = some (.int .i64 lf)) (by kernel_rfl) (⟨g0, g2, c14⟩) (fun hHeld => ?_)
    refine wpAnyH_take (i := 0) (oi := ⟨some 48, _, _, _, _, _⟩) (v := ?_) rfl (by kernel_rfl) (by kernel_rfl) (by kernel_rfl) (fun _ _ _ h => h) (Or.inl ⟨by rfl, ?_⟩) hHeld ?_
    rotate_left
    · intro w hSw; (try dsimp only at hSw); go_simp; try with_reducible rfl
    try simp only [Act.put, List.setIfInBounds_toArray, List.set_cons_zero, List.set_cons_succ]
    refine wpAnyH_take (i := 1) (oi := ⟨some 49, _, _, _, _, _⟩) (v := ?_) rfl (by kernel_rfl) (by kernel_rfl) (by kernel_rfl) (fun _ _ _ h => h) (Or.inl ⟨by rfl, ?_⟩) hHeld ?_
    rotate_left
    · intro w hSw; (try dsimp only at hSw); go_simp; try with_reducible rfl
    try simp only [Act.put, List.setIfInBounds_toArray, List.set_cons_zero, List.set_cons_succ]
    refine wpAnyH_take (i := 2) (oi := ⟨some 50, _, _, _, _, _⟩) (v := ?_) rfl (by kernel_rfl) (by kernel_rfl) (by kernel_rfl) (fun _ _ _ h => h) (Or.inl ⟨by rfl, ?_⟩) hHeld ?_
    rotate_left
    · intro w hSw; (try dsimp only at hSw); go_simp; try with_reducible rfl
    try simp only [Act.put, List.setIfInBounds_toArray, List.set_cons_zero, List.set_cons_succ]
    refine wpAnyH_take (i := 3) (oi := ⟨some 51, _, _, _, _, _⟩) (v := ?_) rfl (by kernel_rfl) (by kernel_rfl) (by kernel_rfl) (fun _ _ _ h => h) (Or.inl ⟨by rfl, ?_⟩) hHeld ?_
    rotate_left
    · intro w hSw; (try dsimp only at hSw); go_simp; try with_reducible rfl
    try simp only [Act.put, List.setIfInBounds_toArray, List.set_cons_zero, List.set_cons_succ]
    refine wpAnyH_take (i := 4) (oi := ⟨some 52, _, _, _, _, _⟩) (v := ?_) rfl (by kernel_rfl) (by kernel_rfl) (by kernel_rfl) (fun _ _ _ h => h) (Or.inl ⟨by rfl, ?_⟩) hHeld ?_
    rotate_left
    · intro w hSw; (try dsimp only at hSw); go_simp; try with_reducible rfl
    try simp only [Act.put, List.setIfInBounds_toArray, List.set_cons_zero, List.set_cons_succ]
    refine wpAnyH_take (i := 5) (oi := ⟨some 53, _, _, _, _, _⟩) (v := ?_) rfl (by kernel_rfl) (by kernel_rfl) (by kernel_rfl) (fun _ _ _ h => h) (Or.inl ⟨by rfl, ?_⟩) hHeld ?_
    rotate_left
    · intro w hSw; (try dsimp only at hSw); go_simp; try with_reducible rfl
    try simp only [Act.put, List.setIfInBounds_toArray, List.set_cons_zero, List.set_cons_succ]
    refine wpAnyH_take (i := 6) (oi := ⟨some 54, _, _, _, _, _⟩) (v := ?_) rfl (by kernel_rfl) (by kernel_rfl) (by kernel_rfl) (fun _ _ _ h => h) (Or.inl ⟨by rfl, ?_⟩) hHeld ?_
    rotate_left
    · intro w hSw; (try dsimp only at hSw); go_simp; try with_reducible rfl
    try simp only [Act.put, List.setIfInBounds_toArray, List.set_cons_zero, List.set_cons_succ]
    refine wpAnyH_take (i := 7) (oi := ⟨some 55, _, _, _, _, _⟩) (v := ?_) rfl (by kernel_rfl) (by kernel_rfl) (by kernel_rfl) (fun _ _ _ h => h) (Or.inl ⟨by rfl, ?_⟩) hHeld ?_
    rotate_left
    · intro w hSw; (try dsimp only at hSw); go_simp; try with_reducible rfl
    try simp only [Act.put, List.setIfInBounds_toArray, List.set_cons_zero, List.set_cons_succ]
    refine wpAnyH_take (i := 8) (oi := ⟨some 56, _, _, _, _, _⟩) (v := ?_) rfl (by kernel_rfl) (by kernel_rfl) (by kernel_rfl) (fun _ _ _ h => h) (Or.inl ⟨by rfl, ?_⟩) hHeld ?_
    rotate_left
    · intro w hSw; (try dsimp only at hSw); go_simp; try with_reducible rfl
    try simp only [Act.put, List.setIfInBounds_toArray, List.set_cons_zero, List.set_cons_succ]
    refine wpAnyH_take (i := 9) (oi := ⟨some 57, _, _, _, _, _⟩) (v := ?_) rfl (by kernel_rfl) (by kernel_rfl) (by kernel_rfl) (fun _ _ _ h => h) (Or.inl ⟨by rfl, ?_⟩) hHeld ?_
    rotate_left
    · intro w hSw; (try dsimp only at hSw); go_simp; try with_reducible rfl
    try simp only [Act.put, List.setIfInBounds_toArray, List.set_cons_zero, List.set_cons_succ]
    refine wpAnyH_take (i := 10) (oi := ⟨some 58, _, _, _, _, _⟩) (v := ?_) rfl (by kernel_rfl) (by kernel_rfl) (by kernel_rfl) (fun _ _ _ h => h) (Or.inl ⟨by rfl, ?_⟩) hHeld ?_
    rotate_left
    · intro w hSw; (try dsimp only at hSw); go_simp; try with_reducible rfl
    try simp only [Act.put, List.setIfInBounds_toArray, List.set_cons_zero, List.set_cons_succ]
    refine wpAnyH_take (i := 11) (oi := ⟨some 59, _, _, _, _, _⟩) (v := ?_) rfl (by kernel_rfl) (by kernel_rfl) (by kernel_rfl) (fun _ _ _ h => h) (Or.inl ⟨by rfl, ?_⟩) hHeld ?_
    rotate_left
    · intro w hSw; (try dsimp only at hSw); go_simp; try with_reducible rfl
    try simp only [Act.put, List.setIfInBounds_toArray, List.set_cons_zero, List.set_cons_succ]
    refine wpAnyH_take (i := 12) (oi := ⟨some 60, _, _, _, _, _⟩) (v := ?_) rfl (by kernel_rfl) (by kernel_rfl) (by kernel_rfl) (fun _ _ _ h => h) (Or.inl ⟨by rfl, ?_⟩) hHeld ?_
    rotate_left
    · intro w hSw; (try dsimp only at hSw); go_simp; try with_reducible rfl
    try simp only [Act.put, List.setIfInBounds_toArray, List.set_cons_zero, List.set_cons_succ]
    refine wpAnyH_take (i := 13) (oi := ⟨some 61, _, _, _, _, _⟩) (v := .int .i64 x) rfl (by kernel_rfl) (by kernel_rfl) (by kernel_rfl) (fun _ _ _ h => h) (Or.inl ⟨by rfl, ?_⟩) hHeld ?_
    · intro w hSw; go_simp; have hx := HX.out; repeat' split; all_goals omega
    try simp only [Act.put, List.setIfInBounds_toArray, List.set_cons_zero, List.set_cons_succ]
    refine wpAnyH_ready (rs := [14]) (by kernel_rfl) (by simp) (AllReadyH.cons (o := ⟨some 62, _, _, _, _, _⟩) rfl (fun K hK => ?_) AllReadyH.nil)
    go_simp
    refine (p_read_at (w := w.drewN 1) (F := Fs true) (n := N) (s := s.l true) HPL.out true 1 rfl x ((s.l true).x true) ((s.l true).e true) rfl rfl).mono ?_; rw [HKC.out]; rintro e3 w3 ⟨bp, bc, rfl, hown3, hp3, hk3⟩; obtain ⟨col3, hR3, hk3⟩ := none_mid HA.out true (HPT.out _ hp3) hk3; have HR3 := Lib.hid hR3; have HK3 := Lib.hid hk3; have d0 : w3.cell? ⟨R, 6, none⟩ = some (.pointer (some ⟨p, 0, none⟩)) := (by rw [← HP.out]; exact hR3.cells 6); have d2 : w3.cell? ⟨R, 8, none⟩ = some (.int .i64 1) := hR3.cells 8; have d14 : w3.cell? ⟨R, 14, none⟩ = some (.int .i64 lf) := (by rw [← HLF.out]; exact hR3.cells 14); have d5 : w3.cell? ⟨R, 11, none⟩ = some (.bool false) := (by rw [← HO2.out]; exact hR3.cells 11); have f5 : w3.frozen? ⟨R, 11, none⟩ = false := frozen_of_row _ _ _ _ _ hR3.hR; have HPQ : Hid (IsP w3 p (Fs true) N (s.l true)) := (by rw [← HP.out]; exact hR3.hl true); clear hown3 hp3 hk3 hR3
    refine hK.out _ _ (⟨d0, d2, d14⟩) (fun hHeld => ?_)
    clear hK K
    try simp only [Act.put, List.setIfInBounds_toArray, List.set_cons_zero, List.set_cons_succ]
    refine wpAnyH_take (i := 15) (oi := ⟨some 10, _, _, _, _, _⟩) (v := ?_) rfl (by kernel_rfl) (by kernel_rfl) (by kernel_rfl) (fun _ _ _ h => h) (Or.inl ⟨by rfl, ?_⟩) hHeld ?_
    rotate_left
    · intro w hSw; (try dsimp only at hSw); go_simp; try with_reducible rfl
    try simp only [Act.put, List.setIfInBounds_toArray, List.set_cons_zero, List.set_cons_succ]
    refine wpAnyH_done (by kernel_rfl) ?_ _
    refine NoPanic.normal ?_
    cases o
    · go_wp2_with fail
      go_quiet ((go_at_call 19; exact p_over_q HPQ.out true 1 rfl false HOO.out _))
      go_wp2_with fail
      go_ret
      exact none_end HR3.out HK3.out _
    · go_wp2_with fail
      go_quiet ((go_at_call 19; exact p_over_q HPQ.out true 1 rfl true HOO.out _))
      have hR5 := (HR3.out.below (below_drewN (Below.refl _ _) nq)).over true
      have HR5 := Lib.hid hR5
      have x0 : (w3.drewN nq).cell? ⟨R, 11, none⟩ = some (.bool false) := d5
      have x1 : (w3.drewN nq).frozen? ⟨R, 11, none⟩ = false := f5
      have HK5 : Hid (Keeps [R] w3 ((w3.drewN nq).setCell ⟨R, 11, none⟩ (.bool true))) := (Keeps.of_below (below_drewN (Below.refl _ _) nq) [R]).trans setR_keeps (fun _ h => .inl h)
      go_upto_region 13 with fail
      obtain ⟨w5, hw5⟩ : ∃ w5, (w3.drewN nq).setCell ⟨R, 11, none⟩ (.bool true) = w5 := ⟨_, rfl⟩
      rw [hw5]
      simp only [if_true] at HR5
      rw [hw5] at HR5 HK5
      have y1 : w5.cell? ⟨R, 7, none⟩ = some (.pointer (some ⟨q, 0, none⟩)) := by rw [← HQT.out]; exact HR5.out.cells 7
      have y3 : w5.cell? ⟨R, 9, none⟩ = some (.int .i64 0) := HR5.out.cells 9
      have HPH : Hid (IsP (w5.drewN 1) q (Fs (!true)) N (s.l (!true))) := by rw [← HQT.out]; exact (HR5.out.hl (!true)).drewN 1
      clear hw5 x0 x1 hR5 d0 d2 d5 f5
      refine wp_region_noPanic ?_
      refine wp_region_held_drew (S := fun w' => w'.cell? ⟨R, 7, none⟩ = some (.pointer (some ⟨q, 0, none⟩)) ∧ w'.cell? ⟨R, 9, none⟩ = some (.int .i64 0)) (by kernel_rfl) (⟨y1, y3⟩) (fun hHeld => ?_)
      refine wpAnyH_take (i := 0) (oi := ⟨some 111, _, _, _, _, _⟩) (v := ?_) rfl (by kernel_rfl) (by kernel_rfl) (by kernel_rfl) (fun _ _ _ h => h) (Or.inl ⟨by rfl, ?_⟩) hHeld ?_
      rotate_left
      · intro w hSw; (try dsimp only at hSw); go_simp; try with_reducible rfl
      try simp only [Act.put, List.setIfInBounds_toArray, List.set_cons_zero, List.set_cons_succ]
      refine wpAnyH_take (i := 1) (oi := ⟨some 112, _, _, _, _, _⟩) (v := ?_) rfl (by kernel_rfl) (by kernel_rfl) (by kernel_rfl) (fun _ _ _ h => h) (Or.inl ⟨by rfl, ?_⟩) hHeld ?_
      rotate_left
      · intro w hSw; (try dsimp only at hSw); go_simp; try with_reducible rfl
      try simp only [Act.put, List.setIfInBounds_toArray, List.set_cons_zero, List.set_cons_succ]
      refine wpAnyH_take (i := 2) (oi := ⟨some 113, _, _, _, _, _⟩) (v := ?_) rfl (by kernel_rfl) (by kernel_rfl) (by kernel_rfl) (fun _ _ _ h => h) (Or.inl ⟨by rfl, ?_⟩) hHeld ?_
      rotate_left
      · intro w hSw; (try dsimp only at hSw); go_simp; try with_reducible rfl
      try simp only [Act.put, List.setIfInBounds_toArray, List.set_cons_zero, List.set_cons_succ]
      refine wpAnyH_take (i := 3) (oi := ⟨some 114, _, _, _, _, _⟩) (v := ?_) rfl (by kernel_rfl) (by kernel_rfl) (by kernel_rfl) (fun _ _ _ h => h) (Or.inl ⟨by rfl, ?_⟩) hHeld ?_
      rotate_left
      · intro w hSw; (try dsimp only at hSw); go_simp; try with_reducible rfl
      try simp only [Act.put, List.setIfInBounds_toArray, List.set_cons_zero, List.set_cons_succ]
      refine wpAnyH_take (i := 4) (oi := ⟨some 115, _, _, _, _, _⟩) (v := ?_) rfl (by kernel_rfl) (by kernel_rfl) (by kernel_rfl) (fun _ _ _ h => h) (Or.inl ⟨by rfl, ?_⟩) hHeld ?_
      rotate_left
      · intro w hSw; (try dsimp only at hSw); go_simp; try with_reducible rfl
      try simp only [Act.put, List.setIfInBounds_toArray, List.set_cons_zero, List.set_cons_succ]
      refine wpAnyH_take (i := 5) (oi := ⟨some 116, _, _, _, _, _⟩) (v := ?_) rfl (by kernel_rfl) (by kernel_rfl) (by kernel_rfl) (fun _ _ _ h => h) (Or.inl ⟨by rfl, ?_⟩) hHeld ?_
      rotate_left
      · intro w hSw; (try dsimp only at hSw); go_simp; try with_reducible rfl
      try simp only [Act.put, List.setIfInBounds_toArray, List.set_cons_zero, List.set_cons_succ]
      refine wpAnyH_take (i := 6) (oi := ⟨some 117, _, _, _, _, _⟩) (v := ?_) rfl (by kernel_rfl) (by kernel_rfl) (by kernel_rfl) (fun _ _ _ h => h) (Or.inl ⟨by rfl, ?_⟩) hHeld ?_
      rotate_left
      · intro w hSw; (try dsimp only at hSw); go_simp; try with_reducible rfl
      try simp only [Act.put, List.setIfInBounds_toArray, List.set_cons_zero, List.set_cons_succ]
      refine wpAnyH_take (i := 7) (oi := ⟨some 118, _, _, _, _, _⟩) (v := ?_) rfl (by kernel_rfl) (by kernel_rfl) (by kernel_rfl) (fun _ _ _ h => h) (Or.inl ⟨by rfl, ?_⟩) hHeld ?_
      rotate_left
      · intro w hSw; (try dsimp only at hSw); go_simp; try with_reducible rfl
      try simp only [Act.put, List.setIfInBounds_toArray, List.set_cons_zero, List.set_cons_succ]
      refine wpAnyH_ready (rs := [8]) (by kernel_rfl) (by simp) (AllReadyH.cons (o := ⟨some 119, _, _, _, _, _⟩) rfl (fun K hK => ?_) AllReadyH.nil)
      go_simp
      refine (p_hang (w := w5.drewN 1) (F := Fs (!true)) (n := N) (s := s.l (!true)) HPH.out true 0 rfl).mono ?_; rintro e6 w6 ⟨rfl, hp6, hk6⟩; rw [← HQT.out] at hp6; have HF := Lib.hid (over_end HK3.out (HK5.out.trans (Keeps.of_below (below_drewN (Below.refl _ _) 1) [R]) (fun _ h => .inl h)) (HR5.out.below (below_drewN (Below.refl _ _) 1)) hp6 hk6); have z1 : w6.cell? ⟨R, 7, none⟩ = some (.pointer (some ⟨q, 0, none⟩)) := (by rw [← HQT.out]; exact ((HR5.out.below (below_drewN (Below.refl _ _) 1)).line (!true) hp6 hk6 (fun _ h => .inl h)).cells 7); have z3 : w6.cell? ⟨R, 9, none⟩ = some (.int .i64 0) := ((HR5.out.below (below_drewN (Below.refl _ _) 1)).line (!true) hp6 hk6 (fun _ h => .inl h)).cells 9; clear hp6 hk6
      refine hK.out _ _ (⟨z1, z3⟩) (fun hHeld => ?_)
      clear hK K
      try simp only [Act.put, List.setIfInBounds_toArray, List.set_cons_zero, List.set_cons_succ]
      refine wpAnyH_done (by kernel_rfl) ?_ _
      refine NoPanic.normal ?_
      go_wp2_with fail
      go_ret
      exact HF.out

end Go.Proofs.YthpdphbppapkhaaDoor
