/-
  The walk of RelayEnds. Condition: the table 'other' reads as the program's text lays it.
-/
import Derived.Test.YthpdphbppapkhaaDoorPlay7
import Derived.BigQuiet
import Derived.Deep.RegionHeld3
namespace Go.Proofs.YthpdphbppapkhaaDoor.relayEnds
open Go.RowKit qb

theorem field63b (x : Value) (o : Bool) : ∀ w : World, (Instr.field 63 (.agg #[x, .bool o]) 1).run Tryd.prog w = .ok (.bool o) w := fun w => by kernel_rfl

set_option maxRecDepth 100000 in
set_option maxHeartbeats 8000000 in
theorem walk (a0 : Option Addr) (len0 cap0 : Nat) (z0 : List Int) (a1 : Option Addr) (len1 cap1 : Nat) (z1 : List Int) (a2 : Int) (w : World) (h0 : IsBytes w a0 len0 cap0 z0) (h1 : IsBytes w a1 len1 cap1 z1) (h2 : I64 a2) (ho : Oth w) :
    Calls Tryd.prog 12 #[.slice a0 len0 cap0, .slice a1 len1 cap1, .int .i64 a2] w fun e w' => e = .returned (.bool true) ∧ Below w.heap.size w w' := by
  have HO := Lib.hid ho
  obtain ⟨Qa, hqa, hQa⟩ := Slc.of_bytes h0 (Below.refl _ _)
  obtain ⟨Qb, hqb, hQb⟩ := Slc.of_bytes h1 (Below.refl _ _)
  obtain ⟨m0, hm0⟩ : ∃ m, min len0 200 = m := ⟨_, rfl⟩
  obtain ⟨m1, hm1⟩ : ∃ m, min len1 200 = m := ⟨_, rfl⟩
  have l0 : len0 ≤ cap0 := h0.1
  have l1 : len1 ≤ cap1 := h1.1
  have l2 : cap0 ≤ 9223372036854775807 := h0.2.1
  have l3 : cap1 ≤ 9223372036854775807 := h1.2.1
  have z0l : (z0.take m0).length = m0 := by have := h0.2.2.1; rw [List.length_take]; omega
  have z1l : (z1.take m1).length = m1 := by have := h1.2.2.1; rw [List.length_take]; omega
  have n0 : m0 ≤ 200 := by omega
  have mc0 : m0 ≤ cap0 := by omega
  have mc1 : m1 ≤ cap1 := by omega
  have n1 : m1 ≤ 200 := by omega
  have HSA := Lib.hid (hqa.cut (k := m0) (by omega))
  have HSB := Lib.hid (hqb.cut (k := m1) (by omega))
  have HQA : Hid _ := hQa
  have HQB : Hid _ := hQb
  obtain ⟨sa, hsa⟩ : ∃ sa, z0.take m0 = sa := ⟨_, rfl⟩
  obtain ⟨sb, hsb⟩ : ∃ sb, z1.take m1 = sb := ⟨_, rfl⟩
  rw [hsa] at HSA z0l
  rw [hsb] at HSB z1l
  have H2 := Lib.hid h2
  have HZ0 := Lib.hid z0l
  have HZ1 := Lib.hid z1l
  clear ho h0 h1 h2 hqa hqb hQa hQb hsa hsb z0l z1l
  go_enter Tryd.func12, Tryd.ntmps12
  go_upto_region 1 with fail
  go_cut [0, 1] (fun v0 v1 w' => v0 = .slice a0 m0 cap0 ∧ v1 = .slice a1 m1 cap1 ∧ ∃ q, w' = w.drewN q)
  case first =>
    refine wp_region_noPanic ?_
    refine wp_region_held_drew (S := fun _ => True) (by kernel_rfl) (trivial) (fun hHeld => ?_)
    refine wpAnyH_take (i := 0) (oi := ⟨some 12, _, _, _, _, _⟩) (v := ?_) rfl (by kernel_rfl) (by kernel_rfl) (by kernel_rfl) (fun _ _ _ h => h) (Or.inl ⟨by rfl, ?_⟩) trivial ?_
    rotate_left
    · intro w hSw; (try dsimp only at hSw); go_simp; try with_reducible rfl
    try simp only [Act.put, List.setIfInBounds_toArray, List.set_cons_zero, List.set_cons_succ]
    refine wpAnyH_take (i := 1) (oi := ⟨some 13, _, _, _, _, _⟩) (v := ?_) rfl (by kernel_rfl) (by kernel_rfl) (by kernel_rfl) (fun _ _ _ h => h) (Or.inl ⟨by rfl, ?_⟩) trivial ?_
    rotate_left
    · intro w hSw; (try dsimp only at hSw); go_simp; try with_reducible rfl
    try simp only [Act.put, List.setIfInBounds_toArray, List.set_cons_zero, List.set_cons_succ]
    refine wpAnyH_take (i := 2) (oi := ⟨some 14, _, _, _, _, _⟩) (v := ?_) rfl (by kernel_rfl) (by kernel_rfl) (by kernel_rfl) (fun _ _ _ h => h) (Or.inl ⟨by rfl, ?_⟩) trivial ?_
    rotate_left
    · intro w hSw; (try dsimp only at hSw); go_simp; try with_reducible rfl
    try simp only [Act.put, List.setIfInBounds_toArray, List.set_cons_zero, List.set_cons_succ]
    refine wpAnyH_take (i := 3) (oi := ⟨some 15, _, _, _, _, _⟩) (v := .int .i64 m0) rfl (by kernel_rfl) (by kernel_rfl) (by kernel_rfl) (fun _ _ _ h => h) (Or.inl ⟨by rfl, ?_⟩) trivial ?_
    · intro w hSw; (try dsimp only at hSw); go_simp; try (intros; omega)
    try simp only [Act.put, List.setIfInBounds_toArray, List.set_cons_zero, List.set_cons_succ]
    refine wpAnyH_take (i := 4) (oi := ⟨some 16, _, _, _, _, _⟩) (v := ?_) rfl (by kernel_rfl) (by kernel_rfl) (by kernel_rfl) (fun _ _ _ h => h) (Or.inl ⟨by rfl, ?_⟩) trivial ?_
    rotate_left
    · intro w hSw; (try dsimp only at hSw); go_simp; try with_reducible rfl
    try simp only [Act.put, List.setIfInBounds_toArray, List.set_cons_zero, List.set_cons_succ]
    refine wpAnyH_take (i := 5) (oi := ⟨some 17, _, _, _, _, _⟩) (v := ?_) rfl (by kernel_rfl) (by kernel_rfl) (by kernel_rfl) (fun _ _ _ h => h) (Or.inl ⟨by rfl, ?_⟩) trivial ?_
    rotate_left
    · intro w hSw; (try dsimp only at hSw); go_simp; try with_reducible rfl
    try simp only [Act.put, List.setIfInBounds_toArray, List.set_cons_zero, List.set_cons_succ]
    refine wpAnyH_take (i := 6) (oi := ⟨some 18, _, _, _, _, _⟩) (v := ?_) rfl (by kernel_rfl) (by kernel_rfl) (by kernel_rfl) (fun _ _ _ h => h) (Or.inl ⟨by rfl, ?_⟩) trivial ?_
    rotate_left
    · intro w hSw; (try dsimp only at hSw); go_simp; try with_reducible rfl
    try simp only [Act.put, List.setIfInBounds_toArray, List.set_cons_zero, List.set_cons_succ]
    refine wpAnyH_take (i := 7) (oi := ⟨some 19, _, _, _, _, _⟩) (v := ?_) rfl (by kernel_rfl) (by kernel_rfl) (by kernel_rfl) (fun _ _ _ h => h) (Or.inl ⟨by rfl, ?_⟩) trivial ?_
    rotate_left
    · intro w hSw; (try dsimp only at hSw); go_simp; try with_reducible rfl
    try simp only [Act.put, List.setIfInBounds_toArray, List.set_cons_zero, List.set_cons_succ]
    refine wpAnyH_take (i := 8) (oi := ⟨some 20, _, _, _, _, _⟩) (v := .int .i64 m1) rfl (by kernel_rfl) (by kernel_rfl) (by kernel_rfl) (fun _ _ _ h => h) (Or.inl ⟨by rfl, ?_⟩) trivial ?_
    · intro w hSw; (try dsimp only at hSw); go_simp; try (intros; omega)
    try simp only [Act.put, List.setIfInBounds_toArray, List.set_cons_zero, List.set_cons_succ]
    refine wpAnyH_take (i := 9) (oi := ⟨some 21, _, _, _, _, _⟩) (v := ?_) rfl (by kernel_rfl) (by kernel_rfl) (by kernel_rfl) (fun _ _ _ h => h) (Or.inl ⟨by rfl, ?_⟩) trivial ?_
    rotate_left
    · intro w hSw; (try dsimp only at hSw); go_simp; try with_reducible rfl
    try simp only [Act.put, List.setIfInBounds_toArray, List.set_cons_zero, List.set_cons_succ]
    refine wpAnyH_take (i := 10) (oi := ⟨some 0, _, _, _, _, _⟩) (v := ?_) rfl (by kernel_rfl) (by kernel_rfl) (by kernel_rfl) (fun _ _ _ h => h) (Or.inl ⟨by rfl, ?_⟩) trivial ?_
    rotate_left
    · intro w hSw; (try dsimp only at hSw); go_simp; try with_reducible rfl
    try simp only [Act.put, List.setIfInBounds_toArray, List.set_cons_zero, List.set_cons_succ]
    refine wpAnyH_take (i := 11) (oi := ⟨some 1, _, _, _, _, _⟩) (v := ?_) rfl (by kernel_rfl) (by kernel_rfl) (by kernel_rfl) (fun _ _ _ h => h) (Or.inl ⟨by rfl, ?_⟩) trivial ?_
    rotate_left
    · intro w hSw; (try dsimp only at hSw); go_simp; try with_reducible rfl
    try simp only [Act.put, List.setIfInBounds_toArray, List.set_cons_zero, List.set_cons_succ]
    refine wpAnyH_done (by kernel_rfl) ?_ _
    refine NoPanic.normal ?_
    go_wp2_with fail
    go_meet
    exact ⟨rfl, rfl, 1, rfl⟩
  case rest =>
  obtain ⟨rfl, rfl, q, rfl⟩ := hcut
  have b1 : Below w.heap.size w (w.drewN q) := below_drewN (Below.refl _ _) _
  have HO1 := Lib.hid (HO.out.below b1 (Nat.le_refl _))
  go_wp2_with fail
  refine (lw_new 7 (by constructor <;> omega) (w.drewN q) HO1.out).mono ?_
  rintro e w2 ⟨Wd, R, ln, N, H, rfl, hN, hlw, hb2, hH⟩
  obtain rfl : N = 8 := by omega
  have HLW := Lib.hid hlw
  have HB2 := Lib.hid (b1.trans (hb2.mono b1.size))
  have HH : Hid (∀ k, k ∈ H → w.heap.size ≤ k) := hH
  have HO2 := Lib.hid (HO1.out.below hb2 (Nat.le_refl _))
  clear hN hlw hb2 hH b1
  go_wp2_with fail
  refine (alive7_any w2 HO2.out).mono ?_
  rintro e w3 ⟨rfl, hb3⟩
  have HPL0 : Hid (Play w w3 Wd R ln ls0 (.slice a0 m0 cap0) (.slice a1 m1 cap1) sa sb) :=
    ⟨H, Qa, Qb, HLW.out.below hb3, HB2.out.trans (hb3.mono HB2.out.size), HH.out, Nat.le_trans HB2.out.size hb3.size, HSA.out, HSB.out, HQA.out, HQB.out⟩
  have HCV : Hid (∀ W, Below w.heap.size w W → (convert 22 9 (.slice a0 m0 cap0)).run Tryd.prog W = .ok (.string (strOfNums sa)) W ∧ (convert 22 9 (.slice a1 m1 cap1)).run Tryd.prog W = .ok (.string (strOfNums sb)) W) := fun W hb => ⟨(HSA.out.below hb).conv, (HSB.out.below hb).conv⟩
  clear hb3 HLW HH HO2 HB2 HSA HSB HQA HQB HO1
  go_upto_region 5 with fail
  go_cut [8] (fun v8 w' => ∃ Kn : Nat, v8 = .int .i64 Kn ∧ 1 ≤ Kn ∧ Kn ≤ 9 ∧ w3 = w')
  case first =>
    go_wp2_with fail
    all_goals (go_meet; first | exact ⟨(1 + a2 % 9).toNat, congrArg (Value.int .i64) (by omega), by omega, by omega, rfl⟩ | exact ⟨1, rfl, by omega, by omega, rfl⟩)
  case rest =>
  obtain ⟨Kn, rfl, hK1, hK9, rfl⟩ := hcut
  have HBUN : Hid (∀ i, Bun (rounds Kn ⟨ls0, sa, sb⟩ i) sa sb) := fun i => rounds_bun Kn ⟨Inv7.new, rfl, rfl⟩ i
  have HPLI : Hid (∀ i, Bun (rounds Kn ⟨ls0, sa, sb⟩ i) sa sb) := HBUN
  obtain ⟨P, hP⟩ : ∃ P, ln true = P := ⟨_, rfl⟩
  obtain ⟨P', hP'⟩ : ∃ P, ln false = P := ⟨_, rfl⟩
  have HP := Lib.hid hP
  have HP' := Lib.hid hP'
  clear hP hP'
  go_wp2_with fail
  go_loopg [9, 10, 35] 1500 (fun g v9 v10 v35 wr => ∃ i : Nat, i + g = 1500 ∧ v35 = .int .i64 i ∧ Hid (Play w wr Wd R ln (rounds Kn ⟨ls0, sa, sb⟩ i).G v9 v10 (rounds Kn ⟨ls0, sa, sb⟩ i).a (rounds Kn ⟨ls0, sa, sb⟩ i).b))
  case atStart => exact ⟨0, by omega, rfl, HPL0⟩
  case round =>
    clear HPL0
    obtain ⟨i, hi, rfl, HPL⟩ := hrel
    by_cases hlt : i < 1500
    · have HX1 : Hid (rounds Kn ⟨ls0, sa, sb⟩ (i + 1) = roundS Kn (rounds Kn ⟨ls0, sa, sb⟩ i)) := rfl
      obtain ⟨X, hX⟩ : ∃ X, rounds Kn ⟨ls0, sa, sb⟩ i = X := ⟨_, rfl⟩
      have hbun := HBUN.out i
      rw [hX] at HPL HX1 hbun
      have HBN := Lib.hid hbun
      clear hX hbun
      obtain ⟨p, c, rfl, hnc, hcm⟩ := HPL.out.form9
      unfold maxLen at hcm
      obtain ⟨n, hn⟩ : ∃ n, X.a.length = n := ⟨_, rfl⟩
      rw [hn] at HPL hnc ⊢
      have hn2 : n ≤ 200 := by
        have h := congrArg List.length HBN.out.ha
        rw [List.length_append, HZ0.out, hn] at h
        omega
      obtain ⟨m, hm⟩ : ∃ m, min n Kn = m := ⟨_, rfl⟩
      obtain ⟨j, hj⟩ : ∃ j, putN X.G true X.a Kn = j := ⟨_, rfl⟩
      have hjm : j ≤ m := by rw [← hj, ← hm, ← hn]; exact took_le _ _ _ _
      have hjn : j ≤ n := by omega
      have hmc : m ≤ c := by omega
      have hmn : m ≤ n := by omega
      have hjc : j ≤ c := by omega
      have HJ := Lib.hid hj
      have HMK := Lib.hid hm
      have HPP := HP
      have qP : wr.cell? ⟨Wd, 0, none⟩ = some (.pointer (some ⟨P, 0, none⟩)) := (HPL.out.cells 0).trans (by rw [← HP.out]; rfl)
      clear hj hn
      go_upto_region 9 with fail
      go_cut [9] (fun v9 w' => ∃ v, v9 = v ∧ Play w w' Wd R ln (putS X.G true X.a Kn) v u10 (X.a.drop j) X.b)
      case first =>
        refine wp_region_noPanic ?_
        refine wp_region_held_drew (S := fun w' => w'.cell? ⟨Wd, 0, none⟩ = some (.pointer (some ⟨P, 0, none⟩))) (by kernel_rfl) (qP) (fun hHeld => ?_)
        refine wpAnyH_take (i := 0) (oi := ⟨some 37, _, _, _, _, _⟩) (v := ?_) rfl (by kernel_rfl) (by kernel_rfl) (by kernel_rfl) (fun _ _ _ h => h) (Or.inl ⟨by rfl, ?_⟩) hHeld ?_
        rotate_left
        · intro w hSw; (try dsimp only at hSw); go_simp; try with_reducible rfl
        try simp only [Act.put, List.setIfInBounds_toArray, List.set_cons_zero, List.set_cons_succ]
        refine wpAnyH_take (i := 1) (oi := ⟨some 38, _, _, _, _, _⟩) (v := ?_) rfl (by kernel_rfl) (by kernel_rfl) (by kernel_rfl) (fun _ _ _ h => h) (Or.inl ⟨by rfl, ?_⟩) hHeld ?_
        rotate_left
        · intro w hSw; (try dsimp only at hSw); go_simp; try with_reducible rfl
        try simp only [Act.put, List.setIfInBounds_toArray, List.set_cons_zero, List.set_cons_succ]
        refine wpAnyH_take (i := 2) (oi := ⟨some 39, _, _, _, _, _⟩) (v := ?_) rfl (by kernel_rfl) (by kernel_rfl) (by kernel_rfl) (fun _ _ _ h => h) (Or.inl ⟨by rfl, ?_⟩) hHeld ?_
        rotate_left
        · intro w hSw; (try dsimp only at hSw); go_simp; try with_reducible rfl
        try simp only [Act.put, List.setIfInBounds_toArray, List.set_cons_zero, List.set_cons_succ]
        refine wpAnyH_take (i := 3) (oi := ⟨some 40, _, _, _, _, _⟩) (v := ?_) rfl (by kernel_rfl) (by kernel_rfl) (by kernel_rfl) (fun _ _ _ h => h) (Or.inl ⟨by rfl, ?_⟩) hHeld ?_
        rotate_left
        · intro w hSw; (try dsimp only at hSw); go_simp; try with_reducible rfl
        try simp only [Act.put, List.setIfInBounds_toArray, List.set_cons_zero, List.set_cons_succ]
        refine wpAnyH_take (i := 4) (oi := ⟨some 41, _, _, _, _, _⟩) (v := ?_) rfl (by kernel_rfl) (by kernel_rfl) (by kernel_rfl) (fun _ _ _ h => h) (Or.inl ⟨by rfl, ?_⟩) hHeld ?_
        rotate_left
        · intro w hSw; (try dsimp only at hSw); go_simp; try with_reducible rfl
        try simp only [Act.put, List.setIfInBounds_toArray, List.set_cons_zero, List.set_cons_succ]
        refine wpAnyH_take (i := 5) (oi := ⟨some 42, _, _, _, _, _⟩) (v := ?_) rfl (by kernel_rfl) (by kernel_rfl) (by kernel_rfl) (fun _ _ _ h => h) (Or.inl ⟨by rfl, ?_⟩) hHeld ?_
        rotate_left
        · intro w hSw; (try dsimp only at hSw); go_simp; try with_reducible rfl
        try simp only [Act.put, List.setIfInBounds_toArray, List.set_cons_zero, List.set_cons_succ]
        refine wpAnyH_take (i := 6) (oi := ⟨some 43, _, _, _, _, _⟩) (v := ?_) rfl (by kernel_rfl) (by kernel_rfl) (by kernel_rfl) (fun _ _ _ h => h) (Or.inl ⟨by rfl, ?_⟩) hHeld ?_
        rotate_left
        · intro w hSw; (try dsimp only at hSw); go_simp; try with_reducible rfl
        try simp only [Act.put, List.setIfInBounds_toArray, List.set_cons_zero, List.set_cons_succ]
        refine wpAnyH_take (i := 7) (oi := ⟨some 44, _, _, _, _, _⟩) (v := ?_) rfl (by kernel_rfl) (by kernel_rfl) (by kernel_rfl) (fun _ _ _ h => h) (Or.inl ⟨by rfl, ?_⟩) hHeld ?_
        rotate_left
        · intro w hSw; (try dsimp only at hSw); go_simp; try with_reducible rfl
        try simp only [Act.put, List.setIfInBounds_toArray, List.set_cons_zero, List.set_cons_succ]
        refine wpAnyH_take (i := 8) (oi := ⟨some 45, _, _, _, _, _⟩) (v := ?_) rfl (by kernel_rfl) (by kernel_rfl) (by kernel_rfl) (fun _ _ _ h => h) (Or.inl ⟨by rfl, ?_⟩) hHeld ?_
        rotate_left
        · intro w hSw; (try dsimp only at hSw); go_simp; try with_reducible rfl
        try simp only [Act.put, List.setIfInBounds_toArray, List.set_cons_zero, List.set_cons_succ]
        refine wpAnyH_take (i := 9) (oi := ⟨some 46, _, _, _, _, _⟩) (v := .int .i64 m) rfl (by kernel_rfl) (by kernel_rfl) (by kernel_rfl) (fun _ _ _ h => h) (Or.inl ⟨by rfl, ?_⟩) hHeld ?_
        · intro w hSw; (try dsimp only at hSw); go_simp; try (intros; omega)
        try simp only [Act.put, List.setIfInBounds_toArray, List.set_cons_zero, List.set_cons_succ]
        refine wpAnyH_take (i := 10) (oi := ⟨some 47, _, _, _, _, _⟩) (v := ?_) rfl (by kernel_rfl) (by kernel_rfl) (by kernel_rfl) (fun _ _ _ h => h) (Or.inl ⟨by rfl, ?_⟩) hHeld ?_
        rotate_left
        · intro w hSw; (try dsimp only at hSw); go_simp; try with_reducible rfl
        try simp only [Act.put, List.setIfInBounds_toArray, List.set_cons_zero, List.set_cons_succ]
        refine wpAnyH_take (i := 12) (oi := ⟨some 49, _, _, _, _, _⟩) (v := ?_) rfl (by kernel_rfl) (by kernel_rfl) (by kernel_rfl) (fun _ _ _ h => h) (Or.inl ⟨by rfl, ?_⟩) hHeld ?_
        rotate_left
        · intro w hSw; (try dsimp only at hSw); go_simp; try with_reducible rfl
        try simp only [Act.put, List.setIfInBounds_toArray, List.set_cons_zero, List.set_cons_succ]
        refine wpAnyH_take (i := 13) (oi := ⟨some 50, _, _, _, _, _⟩) (v := ?_) rfl (by kernel_rfl) (by kernel_rfl) (by kernel_rfl) (fun _ _ _ h => h) (Or.inl ⟨by rfl, ?_⟩) hHeld ?_
        rotate_left
        · intro w hSw; (try dsimp only at hSw); go_simp; try with_reducible rfl
        try simp only [Act.put, List.setIfInBounds_toArray, List.set_cons_zero, List.set_cons_succ]
        refine wpAnyH_ready (rs := [11]) (by kernel_rfl) (by simp) (AllReadyH.cons (o := ⟨some 48, _, _, _, _, _⟩) rfl (fun K hK => ?_) AllReadyH.nil)
        go_simp
        refine Calls.mono ((HPL.out.on (below_drewN (Below.refl _ _) 1)).put9 Kn m j P HMK.out HJ.out HPP.out) ?_; rintro e y1 ⟨rfl, hy⟩; have qP1 : y1.cell? ⟨Wd, 0, none⟩ = some (.pointer (some ⟨P, 0, none⟩)) := (hy.cells 0).trans (by rw [← HPP.out]; rfl); have HY := Lib.hid hy; clear hy
        refine hK.out _ _ (qP1) (fun hHeld => ?_)
        clear hK K
        try simp only [Act.put, List.setIfInBounds_toArray, List.set_cons_zero, List.set_cons_succ]
        by_cases hcj : c = j
        · refine wpAnyH_take (i := 14) (oi := ⟨some 51, _, _, _, _, _⟩) (v := .int .i64 j) rfl (by kernel_rfl) (by kernel_rfl) (by kernel_rfl) (fun _ _ _ h => h) (Or.inl ⟨by rfl, ?_⟩) hHeld ?_
          · intro w hSw; (try dsimp only at hSw); go_simp; try (intros; omega)
          try simp only [Act.put, List.setIfInBounds_toArray, List.set_cons_zero, List.set_cons_succ]
          refine wpAnyH_take (i := 15) (oi := ⟨some 52, _, _, _, _, _⟩) (v := .int .i64 j) rfl (by kernel_rfl) (by kernel_rfl) (by kernel_rfl) (fun _ _ _ h => h) (Or.inl ⟨by rfl, ?_⟩) hHeld ?_
          · intro w hSw; (try dsimp only at hSw); go_simp; try (intros; omega)
          try simp only [Act.put, List.setIfInBounds_toArray, List.set_cons_zero, List.set_cons_succ]
          refine wpAnyH_take (i := 16) (oi := ⟨some 53, _, _, _, _, _⟩) (v := ?_) rfl (by kernel_rfl) (by kernel_rfl) (by kernel_rfl) (fun _ _ _ h => h) (Or.inl ⟨by rfl, ?_⟩) hHeld ?_
          rotate_left
          · intro w hSw; (try dsimp only at hSw); go_simp; try with_reducible rfl
          try simp only [Act.put, List.setIfInBounds_toArray, List.set_cons_zero, List.set_cons_succ]
          refine wpAnyH_take (i := 17) (oi := ⟨some 9, _, _, _, _, _⟩) (v := ?_) rfl (by kernel_rfl) (by kernel_rfl) (by kernel_rfl) (fun _ _ _ h => h) (Or.inl ⟨by rfl, ?_⟩) hHeld ?_
          rotate_left
          · intro w hSw; (try dsimp only at hSw); go_simp; try with_reducible rfl
          try simp only [Act.put, List.setIfInBounds_toArray, List.set_cons_zero, List.set_cons_succ]
          refine wpAnyH_done (by kernel_rfl) ?_ _
          refine NoPanic.normal ?_
          go_wp2_with fail
          go_meet
          exact ⟨_, from_end _ _ _ hcj, HY.out.drop9 hjn⟩
        · refine wpAnyH_take (i := 14) (oi := ⟨some 51, _, _, _, _, _⟩) (v := .int .i64 j) rfl (by kernel_rfl) (by kernel_rfl) (by kernel_rfl) (fun _ _ _ h => h) (Or.inl ⟨by rfl, ?_⟩) hHeld ?_
          · intro w hSw; (try dsimp only at hSw); go_simp; try (intros; omega)
          try simp only [Act.put, List.setIfInBounds_toArray, List.set_cons_zero, List.set_cons_succ]
          refine wpAnyH_take (i := 15) (oi := ⟨some 52, _, _, _, _, _⟩) (v := .int .i64 j) rfl (by kernel_rfl) (by kernel_rfl) (by kernel_rfl) (fun _ _ _ h => h) (Or.inl ⟨by rfl, ?_⟩) hHeld ?_
          · intro w hSw; (try dsimp only at hSw); go_simp; try (intros; omega)
          try simp only [Act.put, List.setIfInBounds_toArray, List.set_cons_zero, List.set_cons_succ]
          refine wpAnyH_take (i := 16) (oi := ⟨some 53, _, _, _, _, _⟩) (v := ?_) rfl (by kernel_rfl) (by kernel_rfl) (by kernel_rfl) (fun _ _ _ h => h) (Or.inl ⟨by rfl, ?_⟩) hHeld ?_
          rotate_left
          · intro w hSw; (try dsimp only at hSw); go_simp; try with_reducible rfl
          try simp only [Act.put, List.setIfInBounds_toArray, List.set_cons_zero, List.set_cons_succ]
          refine wpAnyH_take (i := 17) (oi := ⟨some 9, _, _, _, _, _⟩) (v := ?_) rfl (by kernel_rfl) (by kernel_rfl) (by kernel_rfl) (fun _ _ _ h => h) (Or.inl ⟨by rfl, ?_⟩) hHeld ?_
          rotate_left
          · intro w hSw; (try dsimp only at hSw); go_simp; try with_reducible rfl
          try simp only [Act.put, List.setIfInBounds_toArray, List.set_cons_zero, List.set_cons_succ]
          refine wpAnyH_done (by kernel_rfl) ?_ _
          refine NoPanic.normal ?_
          go_wp2_with fail
          go_meet
          exact ⟨_, from_mid _ _ _ hcj, HY.out.drop9 hjn⟩
      case rest =>
      obtain ⟨v9, hv9, hpl⟩ := hcut
      subst hv9
      have HX2 : Hid (∀ j1 j2, putN X.G true X.a Kn = j1 → putN (putS X.G true X.a Kn) false X.b Kn = j2 → tookS Kn X = ⟨putS (putS X.G true X.a Kn) false X.b Kn, X.a.drop j1, X.b.drop j2⟩) := fun j1 j2 h1 h2 => by subst h1; subst h2; rfl
      have HJ1 := HJ
      obtain ⟨G1, hG1⟩ : ∃ G1, putS X.G true X.a Kn = G1 := ⟨_, rfl⟩
      rw [hG1] at hpl HX2
      have HPL1 := Lib.hid hpl
      clear HPL HJ HMK qP hpl hjm hjn hmc hmn hjc hnc hcm hm hG1
      obtain ⟨p, c, rfl, hnc, hcm⟩ := HPL1.out.form10
      unfold maxLen at hcm
      obtain ⟨n, hn⟩ : ∃ n, X.b.length = n := ⟨_, rfl⟩
      rw [hn] at HPL1 hnc ⊢
      have hn3 : n ≤ 200 := by
        have h := congrArg List.length HBN.out.hb
        rw [List.length_append, HZ1.out, hn] at h
        omega
      obtain ⟨m, hm⟩ : ∃ m, min n Kn = m := ⟨_, rfl⟩
      obtain ⟨j2, hj⟩ : ∃ j, putN G1 false X.b Kn = j := ⟨_, rfl⟩
      have hjm : j2 ≤ m := by rw [← hj, ← hm, ← hn]; exact took_le _ _ _ _
      have hjn : j2 ≤ n := by omega
      have hmc : m ≤ c := by omega
      have hmn : m ≤ n := by omega
      have hjc : j2 ≤ c := by omega
      have HJ := Lib.hid hj
      have HMK := Lib.hid hm
      have HPP := HP'
      have HPL := HPL1
      have qP : wc.cell? ⟨Wd, 1, none⟩ = some (.pointer (some ⟨P', 0, none⟩)) := (HPL.out.cells 1).trans (by rw [← HP'.out]; rfl)
      clear hj hn HPL1
      go_upto_region 10 with fail
      go_cut [10] (fun v10 w' => ∃ v, v10 = v ∧ Play w w' Wd R ln (putS G1 false X.b Kn) u9 v (X.a.drop j) (X.b.drop j2))
      case first =>
        refine wp_region_noPanic ?_
        refine wp_region_held_drew (S := fun w' => w'.cell? ⟨Wd, 1, none⟩ = some (.pointer (some ⟨P', 0, none⟩))) (by kernel_rfl) (qP) (fun hHeld => ?_)
        refine wpAnyH_take (i := 0) (oi := ⟨some 54, _, _, _, _, _⟩) (v := ?_) rfl (by kernel_rfl) (by kernel_rfl) (by kernel_rfl) (fun _ _ _ h => h) (Or.inl ⟨by rfl, ?_⟩) hHeld ?_
        rotate_left
        · intro w hSw; (try dsimp only at hSw); go_simp; try with_reducible rfl
        try simp only [Act.put, List.setIfInBounds_toArray, List.set_cons_zero, List.set_cons_succ]
        refine wpAnyH_take (i := 1) (oi := ⟨some 55, _, _, _, _, _⟩) (v := ?_) rfl (by kernel_rfl) (by kernel_rfl) (by kernel_rfl) (fun _ _ _ h => h) (Or.inl ⟨by rfl, ?_⟩) hHeld ?_
        rotate_left
        · intro w hSw; (try dsimp only at hSw); go_simp; try with_reducible rfl
        try simp only [Act.put, List.setIfInBounds_toArray, List.set_cons_zero, List.set_cons_succ]
        refine wpAnyH_take (i := 2) (oi := ⟨some 56, _, _, _, _, _⟩) (v := ?_) rfl (by kernel_rfl) (by kernel_rfl) (by kernel_rfl) (fun _ _ _ h => h) (Or.inl ⟨by rfl, ?_⟩) hHeld ?_
        rotate_left
        · intro w hSw; (try dsimp only at hSw); go_simp; try with_reducible rfl
        try simp only [Act.put, List.setIfInBounds_toArray, List.set_cons_zero, List.set_cons_succ]
        refine wpAnyH_take (i := 3) (oi := ⟨some 57, _, _, _, _, _⟩) (v := ?_) rfl (by kernel_rfl) (by kernel_rfl) (by kernel_rfl) (fun _ _ _ h => h) (Or.inl ⟨by rfl, ?_⟩) hHeld ?_
        rotate_left
        · intro w hSw; (try dsimp only at hSw); go_simp; try with_reducible rfl
        try simp only [Act.put, List.setIfInBounds_toArray, List.set_cons_zero, List.set_cons_succ]
        refine wpAnyH_take (i := 4) (oi := ⟨some 58, _, _, _, _, _⟩) (v := ?_) rfl (by kernel_rfl) (by kernel_rfl) (by kernel_rfl) (fun _ _ _ h => h) (Or.inl ⟨by rfl, ?_⟩) hHeld ?_
        rotate_left
        · intro w hSw; (try dsimp only at hSw); go_simp; try with_reducible rfl
        try simp only [Act.put, List.setIfInBounds_toArray, List.set_cons_zero, List.set_cons_succ]
        refine wpAnyH_take (i := 5) (oi := ⟨some 59, _, _, _, _, _⟩) (v := ?_) rfl (by kernel_rfl) (by kernel_rfl) (by kernel_rfl) (fun _ _ _ h => h) (Or.inl ⟨by rfl, ?_⟩) hHeld ?_
        rotate_left
        · intro w hSw; (try dsimp only at hSw); go_simp; try with_reducible rfl
        try simp only [Act.put, List.setIfInBounds_toArray, List.set_cons_zero, List.set_cons_succ]
        refine wpAnyH_take (i := 6) (oi := ⟨some 60, _, _, _, _, _⟩) (v := ?_) rfl (by kernel_rfl) (by kernel_rfl) (by kernel_rfl) (fun _ _ _ h => h) (Or.inl ⟨by rfl, ?_⟩) hHeld ?_
        rotate_left
        · intro w hSw; (try dsimp only at hSw); go_simp; try with_reducible rfl
        try simp only [Act.put, List.setIfInBounds_toArray, List.set_cons_zero, List.set_cons_succ]
        refine wpAnyH_take (i := 7) (oi := ⟨some 61, _, _, _, _, _⟩) (v := ?_) rfl (by kernel_rfl) (by kernel_rfl) (by kernel_rfl) (fun _ _ _ h => h) (Or.inl ⟨by rfl, ?_⟩) hHeld ?_
        rotate_left
        · intro w hSw; (try dsimp only at hSw); go_simp; try with_reducible rfl
        try simp only [Act.put, List.setIfInBounds_toArray, List.set_cons_zero, List.set_cons_succ]
        refine wpAnyH_take (i := 8) (oi := ⟨some 62, _, _, _, _, _⟩) (v := ?_) rfl (by kernel_rfl) (by kernel_rfl) (by kernel_rfl) (fun _ _ _ h => h) (Or.inl ⟨by rfl, ?_⟩) hHeld ?_
        rotate_left
        · intro w hSw; (try dsimp only at hSw); go_simp; try with_reducible rfl
        try simp only [Act.put, List.setIfInBounds_toArray, List.set_cons_zero, List.set_cons_succ]
        refine wpAnyH_take (i := 9) (oi := ⟨some 63, _, _, _, _, _⟩) (v := .int .i64 m) rfl (by kernel_rfl) (by kernel_rfl) (by kernel_rfl) (fun _ _ _ h => h) (Or.inl ⟨by rfl, ?_⟩) hHeld ?_
        · intro w hSw; (try dsimp only at hSw); go_simp; try (intros; omega)
        try simp only [Act.put, List.setIfInBounds_toArray, List.set_cons_zero, List.set_cons_succ]
        refine wpAnyH_take (i := 10) (oi := ⟨some 64, _, _, _, _, _⟩) (v := ?_) rfl (by kernel_rfl) (by kernel_rfl) (by kernel_rfl) (fun _ _ _ h => h) (Or.inl ⟨by rfl, ?_⟩) hHeld ?_
        rotate_left
        · intro w hSw; (try dsimp only at hSw); go_simp; try with_reducible rfl
        try simp only [Act.put, List.setIfInBounds_toArray, List.set_cons_zero, List.set_cons_succ]
        refine wpAnyH_take (i := 12) (oi := ⟨some 66, _, _, _, _, _⟩) (v := ?_) rfl (by kernel_rfl) (by kernel_rfl) (by kernel_rfl) (fun _ _ _ h => h) (Or.inl ⟨by rfl, ?_⟩) hHeld ?_
        rotate_left
        · intro w hSw; (try dsimp only at hSw); go_simp; try with_reducible rfl
        try simp only [Act.put, List.setIfInBounds_toArray, List.set_cons_zero, List.set_cons_succ]
        refine wpAnyH_take (i := 13) (oi := ⟨some 67, _, _, _, _, _⟩) (v := ?_) rfl (by kernel_rfl) (by kernel_rfl) (by kernel_rfl) (fun _ _ _ h => h) (Or.inl ⟨by rfl, ?_⟩) hHeld ?_
        rotate_left
        · intro w hSw; (try dsimp only at hSw); go_simp; try with_reducible rfl
        try simp only [Act.put, List.setIfInBounds_toArray, List.set_cons_zero, List.set_cons_succ]
        refine wpAnyH_ready (rs := [11]) (by kernel_rfl) (by simp) (AllReadyH.cons (o := ⟨some 65, _, _, _, _, _⟩) rfl (fun K hK => ?_) AllReadyH.nil)
        go_simp
        refine Calls.mono ((HPL.out.on (below_drewN (Below.refl _ _) 1)).put10 Kn m j2 P' HMK.out HJ.out HPP.out) ?_; rintro e y1 ⟨rfl, hy⟩; have qP1 : y1.cell? ⟨Wd, 1, none⟩ = some (.pointer (some ⟨P', 0, none⟩)) := (hy.cells 1).trans (by rw [← HPP.out]; rfl); have HY := Lib.hid hy; clear hy
        refine hK.out _ _ (qP1) (fun hHeld => ?_)
        clear hK K
        try simp only [Act.put, List.setIfInBounds_toArray, List.set_cons_zero, List.set_cons_succ]
        by_cases hcj : c = j2
        · refine wpAnyH_take (i := 14) (oi := ⟨some 68, _, _, _, _, _⟩) (v := .int .i64 j2) rfl (by kernel_rfl) (by kernel_rfl) (by kernel_rfl) (fun _ _ _ h => h) (Or.inl ⟨by rfl, ?_⟩) hHeld ?_
          · intro w hSw; (try dsimp only at hSw); go_simp; try (intros; omega)
          try simp only [Act.put, List.setIfInBounds_toArray, List.set_cons_zero, List.set_cons_succ]
          refine wpAnyH_take (i := 15) (oi := ⟨some 69, _, _, _, _, _⟩) (v := .int .i64 j2) rfl (by kernel_rfl) (by kernel_rfl) (by kernel_rfl) (fun _ _ _ h => h) (Or.inl ⟨by rfl, ?_⟩) hHeld ?_
          · intro w hSw; (try dsimp only at hSw); go_simp; try (intros; omega)
          try simp only [Act.put, List.setIfInBounds_toArray, List.set_cons_zero, List.set_cons_succ]
          refine wpAnyH_take (i := 16) (oi := ⟨some 70, _, _, _, _, _⟩) (v := ?_) rfl (by kernel_rfl) (by kernel_rfl) (by kernel_rfl) (fun _ _ _ h => h) (Or.inl ⟨by rfl, ?_⟩) hHeld ?_
          rotate_left
          · intro w hSw; (try dsimp only at hSw); go_simp; try with_reducible rfl
          try simp only [Act.put, List.setIfInBounds_toArray, List.set_cons_zero, List.set_cons_succ]
          refine wpAnyH_take (i := 17) (oi := ⟨some 10, _, _, _, _, _⟩) (v := ?_) rfl (by kernel_rfl) (by kernel_rfl) (by kernel_rfl) (fun _ _ _ h => h) (Or.inl ⟨by rfl, ?_⟩) hHeld ?_
          rotate_left
          · intro w hSw; (try dsimp only at hSw); go_simp; try with_reducible rfl
          try simp only [Act.put, List.setIfInBounds_toArray, List.set_cons_zero, List.set_cons_succ]
          refine wpAnyH_done (by kernel_rfl) ?_ _
          refine NoPanic.normal ?_
          go_wp2_with fail
          go_meet
          exact ⟨_, from_end _ _ _ hcj, HY.out.drop10 hjn⟩
        · refine wpAnyH_take (i := 14) (oi := ⟨some 68, _, _, _, _, _⟩) (v := .int .i64 j2) rfl (by kernel_rfl) (by kernel_rfl) (by kernel_rfl) (fun _ _ _ h => h) (Or.inl ⟨by rfl, ?_⟩) hHeld ?_
          · intro w hSw; (try dsimp only at hSw); go_simp; try (intros; omega)
          try simp only [Act.put, List.setIfInBounds_toArray, List.set_cons_zero, List.set_cons_succ]
          refine wpAnyH_take (i := 15) (oi := ⟨some 69, _, _, _, _, _⟩) (v := .int .i64 j2) rfl (by kernel_rfl) (by kernel_rfl) (by kernel_rfl) (fun _ _ _ h => h) (Or.inl ⟨by rfl, ?_⟩) hHeld ?_
          · intro w hSw; (try dsimp only at hSw); go_simp; try (intros; omega)
          try simp only [Act.put, List.setIfInBounds_toArray, List.set_cons_zero, List.set_cons_succ]
          refine wpAnyH_take (i := 16) (oi := ⟨some 70, _, _, _, _, _⟩) (v := ?_) rfl (by kernel_rfl) (by kernel_rfl) (by kernel_rfl) (fun _ _ _ h => h) (Or.inl ⟨by rfl, ?_⟩) hHeld ?_
          rotate_left
          · intro w hSw; (try dsimp only at hSw); go_simp; try with_reducible rfl
          try simp only [Act.put, List.setIfInBounds_toArray, List.set_cons_zero, List.set_cons_succ]
          refine wpAnyH_take (i := 17) (oi := ⟨some 10, _, _, _, _, _⟩) (v := ?_) rfl (by kernel_rfl) (by kernel_rfl) (by kernel_rfl) (fun _ _ _ h => h) (Or.inl ⟨by rfl, ?_⟩) hHeld ?_
          rotate_left
          · intro w hSw; (try dsimp only at hSw); go_simp; try with_reducible rfl
          try simp only [Act.put, List.setIfInBounds_toArray, List.set_cons_zero, List.set_cons_succ]
          refine wpAnyH_done (by kernel_rfl) ?_ _
          refine NoPanic.normal ?_
          go_wp2_with fail
          go_meet
          exact ⟨_, from_mid _ _ _ hcj, HY.out.drop10 hjn⟩
      case rest =>
      obtain ⟨v10, hv10, hpl⟩ := hcut
      subst hv10
      obtain ⟨Y, hY⟩ : ∃ Y, tookS Kn X = Y := ⟨_, rfl⟩
      have hY2 := HX2.out j j2 HJ1.out HJ.out
      have hpy : Play w wc Wd R ln Y.G u9 u10 Y.a Y.b := by rw [← hY, hY2]; exact hpl
      have HBY : Hid (Bun Y sa sb) := by show Bun _ _ _; rw [← hY]; exact HBN.out.took Kn
      have HRS : Hid (rounds Kn ⟨ls0, sa, sb⟩ (i + 1) = gaveS Kn (wentS Kn (hungS Y))) := by show _ = _; rw [HX1.out, ← hY]; rfl
      have HPY := Lib.hid hpy
      clear HPL HJ HMK qP hpl hjm hjn hmc hmn hjc hnc hcm hm hY hY2 hpy HX2 HJ1 HX1 HBN
      obtain ⟨p9, c9, rfl, hnc9, hcm9⟩ := HPY.out.form9
      obtain ⟨p10, c10, rfl, hnc10, hcm10⟩ := HPY.out.form10
      unfold maxLen at hcm9 hcm10
      obtain ⟨na, hna⟩ : ∃ n, Y.a.length = n := ⟨_, rfl⟩
      obtain ⟨nb, hnb⟩ : ∃ n, Y.b.length = n := ⟨_, rfl⟩
      rw [hna] at HPY hnc9 ⊢
      rw [hnb] at HPY hnc10 ⊢
      have HNA := Lib.hid hna
      have HNB := Lib.hid hnb
      have q0 : wc.cell? ⟨Wd, 0, none⟩ = some (.pointer (some ⟨P, 0, none⟩)) := (HPY.out.cells 0).trans (by rw [← HP.out]; rfl)
      clear hna hnb
      go_upto_if 73 with fail
      go_cut [9, 71, 72, 73] (fun v9 v71 v72 v73 w' => v9 = .slice p9 na c9 ∧ Play w w' Wd R ln (hungS Y).G (.slice p9 na c9) (.slice p10 nb c10) Y.a Y.b)
      case first =>
        by_cases hz : na = 0
        · go_wp2_with fail
          refine Calls.mono (HPY.out.hang true 0 rfl P HP.out) ?_
          rintro e y1 ⟨rfl, hy⟩
          go_wp2_with fail
          go_meet
          have e : (hungS Y).G = hangS Y.G true := by
            show hangIf Y.G true (decide (Y.a.length = 0)) = _
            rw [HNA.out, decide_eq_true hz]; rfl
          rw [e]
          exact ⟨by rw [hz], hy⟩
        · go_wp2_with fail
          go_meet
          have e : (hungS Y).G = Y.G := by
            show hangIf Y.G true (decide (Y.a.length = 0)) = _
            rw [HNA.out, decide_eq_false hz]; rfl
          rw [e]
          exact ⟨rfl, HPY.out⟩
      case rest =>
      obtain ⟨hv9, hcut⟩ := hcut
      subst hv9
      have HPH := Lib.hid hcut
      clear hcut HPY q0
      obtain ⟨b0, hb0⟩ : ∃ b0, decide (Y.b.length = 0) = b0 := ⟨_, rfl⟩
      have hbn : decide (nb = 0) = b0 := by rw [← hb0, HNB.out]
      have HB0 := Lib.hid hb0
      clear hb0
      go_wp2_with fail
      go_loopg [79] 4 (fun g v79 wr => ∃ j : Nat, j + g = 4 ∧ v79 = .int .i64 j ∧ Hid (Play w wr Wd R ln (kindsS Kn b0 (hungS Y).G j) (.slice p9 na c9) (.slice p10 nb c10) Y.a Y.b))
      case atStart => exact ⟨0, by omega, rfl, HPH⟩
      case round =>
        clear HPH
        obtain ⟨j, hj, rfl, HPJ⟩ := hrel
        by_cases hlt4 : j < 4
        · obtain ⟨Gj, hGj⟩ : ∃ Gj, kindsS Kn b0 (hungS Y).G j = Gj := ⟨_, rfl⟩
          have HGJ : Hid (kindsS Kn b0 (hungS Y).G (j + 1) = kindS Kn b0 j Gj) := by show _ = _; rw [← hGj]; rfl
          rw [hGj] at HPJ
          clear hGj
          have q1 : wr.cell? ⟨Wd, 1, none⟩ = some (.pointer (some ⟨P', 0, none⟩)) := (HPJ.out.cells 1).trans (by rw [← HP'.out]; rfl)
          have q2 : wr.cell? ⟨Wd, 2, none⟩ = some (.pointer (some ⟨R, 0, none⟩)) := HPJ.out.cells 2
          by_cases hj1 : j = 1
          · subst hj1
            by_cases hz : nb = 0
            · have hbt : b0 = true := by rw [← hbn]; exact decide_eq_true hz
              clear hbn
              subst hz
              obtain ⟨o, ho⟩ : ∃ o, overS Gj = o := ⟨_, rfl⟩
              have HOV := Lib.hid ho
              clear ho
              go_wp2_with fail
              refine Calls.mono (HPJ.out.over o HOV.out P' HP'.out) ?_
              rintro e y1 ⟨rfl, rfl⟩
              cases o
              · go_wp2_with fail
                refine Calls.mono (HPJ.out.step 1 Kn 1) ?_
                rintro e y2 ⟨rfl, hy⟩
                have HY := Lib.hid hy
                clear hy
                go_wp2_with fail
                go_roundg (4 - (1 + 1))
                case measure => omega
                case rel => exact ⟨1 + 1, by omega, by go_num, by show Play _ _ _ _ _ _ _ _ _ _; rw [HGJ.out, kind_other Kn b0 1 Gj (.inr (by rw [HOV.out, Bool.and_false]))]; exact HY.out⟩
              · go_wp2_with fail
                refine Calls.mono (HPJ.out.hang false 1 rfl P' HP'.out) ?_
                rintro e y2 ⟨rfl, hy⟩
                have HY := Lib.hid hy
                have q2 : y2.cell? ⟨Wd, 2, none⟩ = some (.pointer (some ⟨R, 0, none⟩)) := hy.cells 2
                clear hy
                go_wp2_with fail
                refine Calls.mono (HY.out.step 1 Kn 1) ?_
                rintro e y3 ⟨rfl, hy⟩
                have HY3 := Lib.hid hy
                clear hy
                go_wp2_with fail
                go_roundg (4 - (1 + 1))
                case measure => omega
                case rel => exact ⟨1 + 1, by omega, by go_num, by show Play _ _ _ _ _ _ _ _ _ _; rw [HGJ.out, kind_one Kn b0 1 Gj rfl (by rw [HOV.out, hbt]; rfl)]; exact HY3.out⟩
            · have hbt : b0 = false := by rw [← hbn]; exact decide_eq_false hz
              go_wp2_with fail
              refine Calls.mono (HPJ.out.step 1 Kn 1) ?_
              rintro e y2 ⟨rfl, hy⟩
              have HY := Lib.hid hy
              clear hy
              go_wp2_with fail
              go_roundg (4 - (1 + 1))
              case measure => omega
              case rel => exact ⟨1 + 1, by omega, by go_num, by show Play _ _ _ _ _ _ _ _ _ _; rw [HGJ.out, kind_other Kn b0 1 Gj (.inr (by rw [hbt, Bool.false_and]))]; exact HY.out⟩
          · go_wp2_with fail
            refine Calls.mono (HPJ.out.step j Kn j) ?_
            rintro e y2 ⟨rfl, hy⟩
            have HY := Lib.hid hy
            clear hy
            go_wp2_with fail
            go_roundg (4 - (j + 1))
            case measure => omega
            case rel => exact ⟨j + 1, by omega, by go_num, by show Play _ _ _ _ _ _ _ _ _ _; rw [HGJ.out, kind_other Kn b0 j Gj (.inl hj1)]; exact HY.out⟩
        · obtain rfl : j = 4 := by omega
          have HBW : Hid (Bun (wentS Kn (hungS Y)) sa sb) := HBY.out.hung.went Kn
          have hG4 : (wentS Kn (hungS Y)).G = kindsS Kn b0 (hungS Y).G 4 := by
            show kindsS Kn (decide (Y.b.length = 0)) _ 4 = _
            rw [HB0.out]
          rw [← hG4] at HPJ
          have HRD1 : Hid (∀ d, ((wentS Kn (hungS Y)).G.rd d).length ≤ 100000) := fun d => Nat.le_trans (rounds_rd Kn HBW.out (by rw [HZ0.out]; exact n0) (by rw [HZ1.out]; exact n1) d) (by omega)
          clear hG4
          go_wp2_with fail
          refine Calls.mono (HPJ.out.give HRD1.out 5 Kn true rfl) ?_
          rintro e y1 ⟨rfl, hy⟩
          obtain ⟨G5, hG5⟩ : ∃ G5, readdS (wentS Kn (hungS Y)).G true (count Kn (((wentS Kn (hungS Y)).G.s.l true).x (!true)).length) = G5 := ⟨_, rfl⟩
          rw [hG5] at hy
          have HB5 : Hid (Bun ⟨G5, Y.a, Y.b⟩ sa sb) := by show Bun _ _ _; rw [← hG5]; exact ⟨HBW.out.inv.readd _ _, HBW.out.ha, HBW.out.hb⟩
          have HRD2 : Hid (∀ d, (G5.rd d).length ≤ 100000) := fun d => Nat.le_trans (rounds_rd Kn HB5.out (by rw [HZ0.out]; exact n0) (by rw [HZ1.out]; exact n1) d) (by omega)
          have HG5 := Lib.hid hG5
          have HY := Lib.hid hy
          clear hy hG5
          go_wp2_with fail
          refine Calls.mono (HY.out.give HRD2.out 8 Kn false rfl) ?_
          rintro e y2 ⟨rfl, hy2⟩
          have HYY : Hid (Play w y2 Wd R ln (rounds Kn ⟨ls0, sa, sb⟩ (i + 1)).G (.slice p9 na c9) (.slice p10 nb c10) (rounds Kn ⟨ls0, sa, sb⟩ (i + 1)).a (rounds Kn ⟨ls0, sa, sb⟩ (i + 1)).b) := by
            show Play _ _ _ _ _ _ _ _ _ _
            rw [HRS.out]
            show Play w y2 Wd R ln (readdS (readdS (wentS Kn (hungS Y)).G true _) false _) _ _ Y.a Y.b
            have e := HG5.out
            simp only [Bool.not_true] at e
            rw [e]
            exact hy2
          clear hy2
          go_wp2_with fail
          go_roundg (1500 - (i + 1))
          case measure => omega
          case rel => exact ⟨i + 1, by omega, by go_num, HYY⟩
    · obtain rfl : i = 1500 := by omega
      obtain ⟨X, hX⟩ : ∃ X, rounds Kn ⟨ls0, sa, sb⟩ 1500 = X := ⟨_, rfl⟩
      obtain ⟨e1, e2, e3, e4, e5, e6⟩ : X.G.rd true = sa ∧ X.G.rd false = sb ∧ X.G.s.o false = true ∧ (X.G.s.w false).length = 0 ∧ (X.G.s.l true).e false = true ∧ ((X.G.s.l true).x false).length = 0 := by
        rw [← hX]
        exact all_through Kn hK1 hK9 sa sb (by rw [HZ0.out]; exact n0) (by rw [HZ1.out]; exact n1) 1500 (by omega)
      have HINV : Hid (Inv7 X.G) := by show Inv7 _; rw [← hX]; exact (HBUN.out 1500).inv
      rw [hX] at HPL
      clear hX
      obtain ⟨r1, hr1⟩ : ∃ s, strOfNums sa = s := ⟨_, rfl⟩
      obtain ⟨r0, hr0⟩ : ∃ s, strOfNums sb = s := ⟨_, rfl⟩
      have HS : Hid (∀ W, Below wr.heap.size wr W → Below wr.heap.size wr W ∧ W.cell? ⟨Wd, 2, none⟩ = some (.pointer (some ⟨R, 0, none⟩)) ∧ W.cell? ⟨Wd, 0, none⟩ = some (.pointer (some ⟨P, 0, none⟩)) ∧ W.cell? ⟨Wd, 5, none⟩ = some (.string r0) ∧ W.cell? ⟨Wd, 6, none⟩ = some (.string r1) ∧
          (convert 22 9 (.slice a0 m0 cap0)).run Tryd.prog W = .ok (.string r1) W ∧ (convert 22 9 (.slice a1 m1 cap1)).run Tryd.prog W = .ok (.string r0) W) := by
        intro W hb
        have h := HPL.out.on hb
        have hc := HCV.out W h.bel
        refine ⟨hb, h.cells 2, (h.cells 0).trans (by rw [← HP.out]; rfl), (h.cells 5).trans ?_, (h.cells 6).trans ?_, ?_, ?_⟩
        · rw [← hr0, ← e2]; rfl
        · rw [← hr1, ← e1]; rfl
        · rw [← hr1]; exact hc.1
        · rw [← hr0]; exact hc.2
      have HLW : Hid (∃ H, LW wr Wd R ln 8 (mem X.G) H) := HPL.out.lw
      have hsz : w.heap.size ≤ wr.heap.size := HPL.out.bel.size
      have HBE : Hid (Below w.heap.size w wr) := HPL.out.bel
      have E3 := Lib.hid e3
      have E4 := Lib.hid e4
      have E5 := Lib.hid e5
      have E6 := Lib.hid e6
      have HDL : Hid (∀ e, e ∈ X.G.s.evs → e.data.length ≤ 500000) := fun e he => Nat.le_trans (HINV.out.evd e he).2.1 (by decide)
      clear e1 e2 e3 e4 e5 e6 hr1 hr0 HPL
      obtain ⟨HLb, hlw⟩ := HLW.out
      have HL8 := Lib.hid hlw
      clear hlw HLW
      go_upto_region 23 with fail
      refine wp_region_noPanic ?_
      refine wp_region_held_drew (S := fun W => Below wr.heap.size wr W ∧ W.cell? ⟨Wd, 2, none⟩ = some (.pointer (some ⟨R, 0, none⟩)) ∧ W.cell? ⟨Wd, 0, none⟩ = some (.pointer (some ⟨P, 0, none⟩)) ∧ W.cell? ⟨Wd, 5, none⟩ = some (.string r0) ∧ W.cell? ⟨Wd, 6, none⟩ = some (.string r1) ∧ (convert 22 9 (.slice a0 m0 cap0)).run Tryd.prog W = .ok (.string r1) W ∧ (convert 22 9 (.slice a1 m1 cap1)).run Tryd.prog W = .ok (.string r0) W) (by kernel_rfl) (HS.out _ (below_drewN (Below.refl _ _) 1)) (fun hHeld => ?_)
      refine wpAnyH_take (i := 0) (oi := ⟨some 119, _, _, _, _, _⟩) (v := ?_) rfl (by kernel_rfl) (by kernel_rfl) (by kernel_rfl) (fun _ _ _ h => h) (Or.inl ⟨by rfl, ?_⟩) hHeld ?_
      rotate_left
      · intro w hSw; (try dsimp only at hSw); go_simp; try with_reducible rfl
      try simp only [Act.put, List.setIfInBounds_toArray, List.set_cons_zero, List.set_cons_succ]
      refine wpAnyH_take (i := 1) (oi := ⟨some 120, _, _, _, _, _⟩) (v := ?_) rfl (by kernel_rfl) (by kernel_rfl) (by kernel_rfl) (fun _ _ _ h => h) (Or.inl ⟨by rfl, ?_⟩) hHeld ?_
      rotate_left
      · intro w hSw; (try dsimp only at hSw); go_simp; try with_reducible rfl
      try simp only [Act.put, List.setIfInBounds_toArray, List.set_cons_zero, List.set_cons_succ]
      refine wpAnyH_take (i := 2) (oi := ⟨some 121, _, _, _, _, _⟩) (v := ?_) rfl (by kernel_rfl) (by kernel_rfl) (by kernel_rfl) (fun _ _ _ h => h) (Or.inl ⟨by rfl, ?_⟩) hHeld ?_
      rotate_left
      · intro w hSw; (try dsimp only at hSw); go_simp; try with_reducible rfl
      try simp only [Act.put, List.setIfInBounds_toArray, List.set_cons_zero, List.set_cons_succ]
      refine wpAnyH_take (i := 3) (oi := ⟨some 122, _, _, _, _, _⟩) (v := ?_) rfl (by kernel_rfl) (by kernel_rfl) (by kernel_rfl) (fun _ _ _ h => h) (Or.inl ⟨by rfl, ?_⟩) hHeld ?_
      rotate_left
      · intro w hSw; (try dsimp only at hSw); go_simp; try with_reducible rfl
      try simp only [Act.put, List.setIfInBounds_toArray, List.set_cons_zero, List.set_cons_succ]
      refine wpAnyH_ready (rs := [4]) (by kernel_rfl) (by simp) (AllReadyH.cons (o := ⟨some 123, _, _, _, _, _⟩) rfl (fun K hK => ?_) AllReadyH.nil)
      go_simp
      refine Calls.mono (lw_done (HL8.out.below hHeld.1) true (by show (X.G.s.o false && decide ((X.G.s.w false).length = 0)) = true; rw [E3.out, E4.out]; rfl)) ?_; rintro e y1 ⟨rfl, rfl⟩
      refine hK.out _ _ (hHeld) (fun hHeld => ?_)
      clear hK K
      try simp only [Act.put, List.setIfInBounds_toArray, List.set_cons_zero, List.set_cons_succ]
      refine wpAnyH_take (i := 5) (oi := ⟨some 124, _, _, _, _, _⟩) (v := ?_) rfl (by kernel_rfl) (by kernel_rfl) (by kernel_rfl) (fun _ _ _ h => h) (Or.inl ⟨by rfl, ?_⟩) hHeld ?_
      rotate_left
      · intro w hSw; (try dsimp only at hSw); go_simp; try with_reducible rfl
      try simp only [Act.put, List.setIfInBounds_toArray, List.set_cons_zero, List.set_cons_succ]
      refine wpAnyH_take (i := 6) (oi := ⟨some 125, _, _, _, _, _⟩) (v := ?_) rfl (by kernel_rfl) (by kernel_rfl) (by kernel_rfl) (fun _ _ _ h => h) (Or.inl ⟨by rfl, ?_⟩) hHeld ?_
      rotate_left
      · intro w hSw; (try dsimp only at hSw); go_simp; try with_reducible rfl
      try simp only [Act.put, List.setIfInBounds_toArray, List.set_cons_zero, List.set_cons_succ]
      refine wpAnyH_take (i := 7) (oi := ⟨some 126, _, _, _, _, _⟩) (v := ?_) rfl (by kernel_rfl) (by kernel_rfl) (by kernel_rfl) (fun _ _ _ h => h) (Or.inl ⟨by rfl, ?_⟩) hHeld ?_
      rotate_left
      · intro w hSw; (try dsimp only at hSw); go_simp; try with_reducible rfl
      try simp only [Act.put, List.setIfInBounds_toArray, List.set_cons_zero, List.set_cons_succ]
      refine wpAnyH_take (i := 8) (oi := ⟨some 127, _, _, _, _, _⟩) (v := ?_) rfl (by kernel_rfl) (by kernel_rfl) (by kernel_rfl) (fun _ _ _ h => h) (Or.inl ⟨by rfl, ?_⟩) hHeld ?_
      rotate_left
      · intro w hSw; (try dsimp only at hSw); go_simp; try with_reducible rfl
      try simp only [Act.put, List.setIfInBounds_toArray, List.set_cons_zero, List.set_cons_succ]
      refine wpAnyH_take (i := 9) (oi := ⟨some 128, _, _, _, _, _⟩) (v := ?_) rfl (by kernel_rfl) (by kernel_rfl) (by kernel_rfl) (fun _ _ _ h => h) (Or.inl ⟨by rfl, ?_⟩) hHeld ?_
      rotate_left
      · intro w hSw; (try dsimp only at hSw); go_simp; try with_reducible rfl
      try simp only [Act.put, List.setIfInBounds_toArray, List.set_cons_zero, List.set_cons_succ]
      refine wpAnyH_take (i := 10) (oi := ⟨some 129, _, _, _, _, _⟩) (v := ?_) rfl (by kernel_rfl) (by kernel_rfl) (by kernel_rfl) (fun _ _ _ h => h) (Or.inl ⟨by rfl, ?_⟩) hHeld ?_
      rotate_left
      · intro w hSw; (try dsimp only at hSw); go_simp; try with_reducible rfl
      try simp only [Act.put, List.setIfInBounds_toArray, List.set_cons_zero, List.set_cons_succ]
      refine wpAnyH_take (i := 11) (oi := ⟨some 130, _, _, _, _, _⟩) (v := ?_) rfl (by kernel_rfl) (by kernel_rfl) (by kernel_rfl) (fun _ _ _ h => h) (Or.inl ⟨by rfl, ?_⟩) hHeld ?_
      rotate_left
      · intro w hSw; (try dsimp only at hSw); go_simp; try with_reducible rfl
      try simp only [Act.put, List.setIfInBounds_toArray, List.set_cons_zero, List.set_cons_succ]
      refine wpAnyH_take (i := 12) (oi := ⟨some 131, _, _, _, _, _⟩) (v := ?_) rfl (by kernel_rfl) (by kernel_rfl) (by kernel_rfl) (fun _ _ _ h => h) (Or.inl ⟨by rfl, ?_⟩) hHeld ?_
      rotate_left
      · intro w hSw; (try dsimp only at hSw); go_simp; try with_reducible rfl
      try simp only [Act.put, List.setIfInBounds_toArray, List.set_cons_zero, List.set_cons_succ]
      refine wpAnyH_take (i := 13) (oi := ⟨some 132, _, _, _, _, _⟩) (v := ?_) rfl (by kernel_rfl) (by kernel_rfl) (by kernel_rfl) (fun _ _ _ h => h) (Or.inl ⟨by rfl, ?_⟩) hHeld ?_
      rotate_left
      · intro w hSw; (try dsimp only at hSw); go_simp; try with_reducible rfl
      try simp only [Act.put, List.setIfInBounds_toArray, List.set_cons_zero, List.set_cons_succ]
      refine wpAnyH_take (i := 14) (oi := ⟨some 133, _, _, _, _, _⟩) (v := ?_) rfl (by kernel_rfl) (by kernel_rfl) (by kernel_rfl) (fun _ _ _ h => h) (Or.inl ⟨by rfl, ?_⟩) hHeld ?_
      rotate_left
      · intro w hSw; (try dsimp only at hSw); go_simp; try with_reducible rfl
      try simp only [Act.put, List.setIfInBounds_toArray, List.set_cons_zero, List.set_cons_succ]
      refine wpAnyH_take (i := 15) (oi := ⟨some 134, _, _, _, _, _⟩) (v := ?_) rfl (by kernel_rfl) (by kernel_rfl) (by kernel_rfl) (fun _ _ _ h => h) (Or.inl ⟨by rfl, ?_⟩) hHeld ?_
      rotate_left
      · intro w hSw; (try dsimp only at hSw); go_simp; try with_reducible rfl
      try simp only [Act.put, List.setIfInBounds_toArray, List.set_cons_zero, List.set_cons_succ]
      refine wpAnyH_take (i := 16) (oi := ⟨some 135, _, _, _, _, _⟩) (v := ?_) rfl (by kernel_rfl) (by kernel_rfl) (by kernel_rfl) (fun _ _ _ h => h) (Or.inl ⟨by rfl, ?_⟩) hHeld ?_
      rotate_left
      · intro w hSw; (try dsimp only at hSw); go_simp; try with_reducible rfl
      try simp only [Act.put, List.setIfInBounds_toArray, List.set_cons_zero, List.set_cons_succ]
      refine wpAnyH_take (i := 17) (oi := ⟨some 136, _, _, _, _, _⟩) (v := ?_) rfl (by kernel_rfl) (by kernel_rfl) (by kernel_rfl) (fun _ _ _ h => h) (Or.inl ⟨by rfl, ?_⟩) hHeld ?_
      rotate_left
      · intro w hSw; (try dsimp only at hSw); go_simp; try with_reducible rfl
      try simp only [Act.put, List.setIfInBounds_toArray, List.set_cons_zero, List.set_cons_succ]
      refine wpAnyH_take (i := 18) (oi := ⟨some 137, _, _, _, _, _⟩) (v := ?_) rfl (by kernel_rfl) (by kernel_rfl) (by kernel_rfl) (fun _ _ _ h => h) (Or.inl ⟨by rfl, ?_⟩) hHeld ?_
      rotate_left
      · intro w hSw; (try dsimp only at hSw); go_simp; try with_reducible rfl
      try simp only [Act.put, List.setIfInBounds_toArray, List.set_cons_zero, List.set_cons_succ]
      refine wpAnyH_take (i := 19) (oi := ⟨some 138, _, _, _, _, _⟩) (v := ?_) rfl (by kernel_rfl) (by kernel_rfl) (by kernel_rfl) (fun _ _ _ h => h) (Or.inl ⟨by rfl, ?_⟩) hHeld ?_
      rotate_left
      · intro w hSw; (try dsimp only at hSw); go_simp; try with_reducible rfl
      try simp only [Act.put, List.setIfInBounds_toArray, List.set_cons_zero, List.set_cons_succ]
      refine wpAnyH_take (i := 20) (oi := ⟨some 139, _, _, _, _, _⟩) (v := ?_) rfl (by kernel_rfl) (by kernel_rfl) (by kernel_rfl) (fun _ _ _ h => h) (Or.inl ⟨by rfl, ?_⟩) hHeld ?_
      rotate_left
      · intro w hSw; (try dsimp only at hSw); go_simp; try with_reducible rfl
      try simp only [Act.put, List.setIfInBounds_toArray, List.set_cons_zero, List.set_cons_succ]
      refine wpAnyH_take (i := 21) (oi := ⟨some 140, _, _, _, _, _⟩) (v := ?_) rfl (by kernel_rfl) (by kernel_rfl) (by kernel_rfl) (fun _ _ _ h => h) (Or.inl ⟨by rfl, ?_⟩) hHeld ?_
      rotate_left
      · intro w hSw; (try dsimp only at hSw); go_simp; try with_reducible rfl
      try simp only [Act.put, List.setIfInBounds_toArray, List.set_cons_zero, List.set_cons_succ]
      refine wpAnyH_take (i := 22) (oi := ⟨some 141, _, _, _, _, _⟩) (v := ?_) rfl (by kernel_rfl) (by kernel_rfl) (by kernel_rfl) (fun _ _ _ h => h) (Or.inl ⟨by rfl, ?_⟩) hHeld ?_
      rotate_left
      · intro w hSw; (try dsimp only at hSw); go_simp; try with_reducible rfl
      try simp only [Act.put, List.setIfInBounds_toArray, List.set_cons_zero, List.set_cons_succ]
      refine wpAnyH_take (i := 23) (oi := ⟨some 142, _, _, _, _, _⟩) (v := ?_) rfl (by kernel_rfl) (by kernel_rfl) (by kernel_rfl) (fun _ _ _ h => h) (Or.inl ⟨by rfl, ?_⟩) hHeld ?_
      rotate_left
      · intro w hSw; (try dsimp only at hSw); go_simp; try with_reducible rfl
      try simp only [Act.put, List.setIfInBounds_toArray, List.set_cons_zero, List.set_cons_succ]
      refine wpAnyH_take (i := 24) (oi := ⟨some 143, _, _, _, _, _⟩) (v := ?_) rfl (by kernel_rfl) (by kernel_rfl) (by kernel_rfl) (fun _ _ _ h => h) (Or.inl ⟨by rfl, ?_⟩) hHeld ?_
      rotate_left
      · intro w hSw; (try dsimp only at hSw); go_simp; try with_reducible rfl
      try simp only [Act.put, List.setIfInBounds_toArray, List.set_cons_zero, List.set_cons_succ]
      refine wpAnyH_take (i := 25) (oi := ⟨some 144, _, _, _, _, _⟩) (v := ?_) rfl (by kernel_rfl) (by kernel_rfl) (by kernel_rfl) (fun _ _ _ h => h) (Or.inl ⟨by rfl, ?_⟩) hHeld ?_
      rotate_left
      · intro w hSw; (try dsimp only at hSw); go_simp; try with_reducible rfl
      try simp only [Act.put, List.setIfInBounds_toArray, List.set_cons_zero, List.set_cons_succ]
      refine wpAnyH_take (i := 26) (oi := ⟨some 145, _, _, _, _, _⟩) (v := ?_) rfl (by kernel_rfl) (by kernel_rfl) (by kernel_rfl) (fun _ _ _ h => h) (Or.inl ⟨by rfl, ?_⟩) hHeld ?_
      rotate_left
      · intro w hSw; (try dsimp only at hSw); go_simp; try with_reducible rfl
      try simp only [Act.put, List.setIfInBounds_toArray, List.set_cons_zero, List.set_cons_succ]
      refine wpAnyH_take (i := 27) (oi := ⟨some 146, _, _, _, _, _⟩) (v := ?_) rfl (by kernel_rfl) (by kernel_rfl) (by kernel_rfl) (fun _ _ _ h => h) (Or.inl ⟨by rfl, ?_⟩) hHeld ?_
      rotate_left
      · intro w hSw; (try dsimp only at hSw); go_simp; try with_reducible rfl
      try simp only [Act.put, List.setIfInBounds_toArray, List.set_cons_zero, List.set_cons_succ]
      refine wpAnyH_take (i := 28) (oi := ⟨some 147, _, _, _, _, _⟩) (v := ?_) rfl (by kernel_rfl) (by kernel_rfl) (by kernel_rfl) (fun _ _ _ h => h) (Or.inl ⟨by rfl, ?_⟩) hHeld ?_
      rotate_left
      · intro w hSw; (try dsimp only at hSw); go_simp; try with_reducible rfl
      try simp only [Act.put, List.setIfInBounds_toArray, List.set_cons_zero, List.set_cons_succ]
      refine wpAnyH_take (i := 29) (oi := ⟨some 148, _, _, _, _, _⟩) (v := ?_) rfl (by kernel_rfl) (by kernel_rfl) (by kernel_rfl) (fun _ _ _ h => h) (Or.inl ⟨by rfl, ?_⟩) hHeld ?_
      rotate_left
      · intro w hSw; (try dsimp only at hSw); go_simp; try with_reducible rfl
      try simp only [Act.put, List.setIfInBounds_toArray, List.set_cons_zero, List.set_cons_succ]
      refine wpAnyH_ready (rs := [30]) (by kernel_rfl) (by simp) (AllReadyH.cons (o := ⟨some 149, _, _, _, _, _⟩) rfl (fun K hK => ?_) AllReadyH.nil)
      go_simp
      refine Calls.mono (lw_transcript (HL8.out.below hHeld.1) HDL.out) ?_; rintro e y2 ⟨v2, rfl, ht2, _, hb2⟩; clear ht2; have hfd := field63b v2 (X.G.s.o false); rw [E3.out] at hfd; have hoo : (mem X.G).s.o false = true := E3.out; rw [hoo]
      refine hK.out _ _ (HS.out _ (hHeld.1.trans (hb2.mono hHeld.1.size))) (fun hHeld => ?_)
      clear hK K
      try simp only [Act.put, List.setIfInBounds_toArray, List.set_cons_zero, List.set_cons_succ]
      refine wpAnyH_take (i := 31) (oi := ⟨some 150, _, _, _, _, _⟩) (v := ?_) rfl (by kernel_rfl) (by kernel_rfl) (by kernel_rfl) (fun _ _ _ h => h) (Or.inl ⟨by rfl, ?_⟩) hHeld ?_
      rotate_left
      · intro w hSw; (try dsimp only at hSw); go_simp; try with_reducible rfl
      try simp only [Act.put, List.setIfInBounds_toArray, List.set_cons_zero, List.set_cons_succ]
      refine wpAnyH_take (i := 32) (oi := ⟨some 151, _, _, _, _, _⟩) (v := ?_) rfl (by kernel_rfl) (by kernel_rfl) (by kernel_rfl) (fun _ _ _ h => h) (Or.inl ⟨by rfl, ?_⟩) hHeld ?_
      rotate_left
      · intro w hSw; (try dsimp only at hSw); go_simp; try with_reducible rfl
      try simp only [Act.put, List.setIfInBounds_toArray, List.set_cons_zero, List.set_cons_succ]
      refine wpAnyH_take (i := 33) (oi := ⟨some 152, _, _, _, _, _⟩) (v := ?_) rfl (by kernel_rfl) (by kernel_rfl) (by kernel_rfl) (fun _ _ _ h => h) (Or.inl ⟨by rfl, ?_⟩) hHeld ?_
      rotate_left
      · intro w hSw; (try dsimp only at hSw); go_simp; try with_reducible rfl
      try simp only [Act.put, List.setIfInBounds_toArray, List.set_cons_zero, List.set_cons_succ]
      refine wpAnyH_take (i := 34) (oi := ⟨some 153, _, _, _, _, _⟩) (v := ?_) rfl (by kernel_rfl) (by kernel_rfl) (by kernel_rfl) (fun _ _ _ h => h) (Or.inl ⟨by rfl, ?_⟩) hHeld ?_
      rotate_left
      · intro w hSw; (try dsimp only at hSw); go_simp; try with_reducible rfl
      try simp only [Act.put, List.setIfInBounds_toArray, List.set_cons_zero, List.set_cons_succ]
      refine wpAnyH_take (i := 35) (oi := ⟨some 154, _, _, _, _, _⟩) (v := ?_) rfl (by kernel_rfl) (by kernel_rfl) (by kernel_rfl) (fun _ _ _ h => h) (Or.inl ⟨by rfl, ?_⟩) hHeld ?_
      rotate_left
      · intro w hSw; (try dsimp only at hSw); go_simp; try with_reducible rfl
      try simp only [Act.put, List.setIfInBounds_toArray, List.set_cons_zero, List.set_cons_succ]
      refine wpAnyH_take (i := 36) (oi := ⟨some 155, _, _, _, _, _⟩) (v := ?_) rfl (by kernel_rfl) (by kernel_rfl) (by kernel_rfl) (fun _ _ _ h => h) (Or.inl ⟨by rfl, ?_⟩) hHeld ?_
      rotate_left
      · intro w hSw; (try dsimp only at hSw); go_simp; try with_reducible rfl
      try simp only [Act.put, List.setIfInBounds_toArray, List.set_cons_zero, List.set_cons_succ]
      refine wpAnyH_take (i := 37) (oi := ⟨some 156, _, _, _, _, _⟩) (v := ?_) rfl (by kernel_rfl) (by kernel_rfl) (by kernel_rfl) (fun _ _ _ h => h) (Or.inl ⟨by rfl, ?_⟩) hHeld ?_
      rotate_left
      · intro w hSw; (try dsimp only at hSw); go_simp; try with_reducible rfl
      try simp only [Act.put, List.setIfInBounds_toArray, List.set_cons_zero, List.set_cons_succ]
      refine wpAnyH_ready (rs := [38]) (by kernel_rfl) (by simp) (AllReadyH.cons (o := ⟨some 157, _, _, _, _, _⟩) rfl (fun K hK => ?_) AllReadyH.nil)
      go_simp
      have hP38 := HP.out; subst hP38; refine Calls.mono (lw_over (HL8.out.below hHeld.1) true false 0 rfl true (by show ((X.G.s.l true).e false && decide (((X.G.s.l true).x false).length = 0)) = true; rw [E5.out, E6.out]; rfl)) ?_; rintro e y3 ⟨rfl, rfl⟩
      refine hK.out _ _ (hHeld) (fun hHeld => ?_)
      clear hK K
      try simp only [Act.put, List.setIfInBounds_toArray, List.set_cons_zero, List.set_cons_succ]
      refine wpAnyH_take (i := 39) (oi := ⟨some 158, _, _, _, _, _⟩) (v := ?_) rfl (by kernel_rfl) (by kernel_rfl) (by kernel_rfl) (fun _ _ _ h => h) (Or.inl ⟨by rfl, ?_⟩) hHeld ?_
      rotate_left
      · intro w hSw; (try dsimp only at hSw); go_simp; try with_reducible rfl
      try simp only [Act.put, List.setIfInBounds_toArray, List.set_cons_zero, List.set_cons_succ]
      refine wpAnyH_take (i := 40) (oi := ⟨some 6, _, _, _, _, _⟩) (v := ?_) rfl (by kernel_rfl) (by kernel_rfl) (by kernel_rfl) (fun _ _ _ h => h) (Or.inl ⟨by rfl, ?_⟩) hHeld ?_
      rotate_left
      · intro w hSw; (try dsimp only at hSw); go_simp; try with_reducible rfl
      try simp only [Act.put, List.setIfInBounds_toArray, List.set_cons_zero, List.set_cons_succ]
      refine wpAnyH_done (by kernel_rfl) ?_ _
      refine NoPanic.normal ?_
      go_wp2_with fail
      go_ret
      exact ⟨rfl, HBE.out.trans (hHeld.1.mono hsz)⟩

end Go.Proofs.YthpdphbppapkhaaDoor.relayEnds
