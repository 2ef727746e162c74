/-
  The walk of RelayPrefix. Condition: the table 'other' reads as the program's text lays it.
-/
import Derived.Test.YthpdphbppapkhaaDoorBytes7
import Derived.BigQuiet
import Derived.Deep.RegionHeld3
namespace Go.Proofs.YthpdphbppapkhaaDoor.relayPrefix
open Go.RowKit qb

theorem lw_waits_q {w : World} {Wd R : Nat} {ln : Bool → Nat} {N : Nat} {S : LS} {H : List Nat} (h : LW w Wd R ln N S H) (u j : Bool) (side : Int) (hside : sd j = side) (p : Nat) (hp : ln u = p) (m : Nat) (hm : ((S.s.l u).x j).length = m) (k : Nat) :
    Calls Tryd.prog 21 #[.pointer (some ⟨p, 0, none⟩), .int .i64 side] (w.drewN k) fun e w' => e = .returned (.int .i64 m) ∧ ∃ m, w' = w.drewN m := by
  subst hp
  exact (lw_waits (h.below (below_drewN (Below.refl _ _) k)) u j side hside m hm).mono fun _ _ ⟨a, b⟩ => ⟨a, k, b.symm⟩

theorem lw_rwaits_q {w : World} {Wd R : Nat} {ln : Bool → Nat} {N : Nat} {S : LS} {H : List Nat} (h : LW w Wd R ln N S H) (d : Bool) (side : Int) (hs : sd d = side) (m : Nat) (hm : (S.s.w d).length = m) (k : Nat) :
    Calls Tryd.prog 37 #[.pointer (some ⟨R, 0, none⟩), .int .i64 side] (w.drewN k) fun e w' => e = .returned (.int .i64 m) ∧ ∃ m, w' = w.drewN m :=
  (lw_rwaits (h.below (below_drewN (Below.refl _ _) k)) d side hs m hm).mono fun _ _ ⟨a, b⟩ => ⟨a, k, b.symm⟩

set_option maxRecDepth 100000 in
set_option maxHeartbeats 4000000 in
theorem walk (a0 : Int) (a1 : Option Addr) (len1 cap1 : Nat) (acts : List Act) (w : World) (h0 : I64 a0) (h1 : IsActs w a1 len1 cap1 acts) (ho : Oth w) :
    Calls Tryd.prog 10 #[.int .i64 a0, .slice a1 len1 cap1] w fun e w' => e = .returned (.bool true) ∧ Below w.heap.size w w' := by
  have HO := Lib.hid ho
  have HG := Lib.hid h1
  have H0 := Lib.hid h0
  clear ho h1 h0
  by_cases hg : isGreat 150 acts = true
  · go_enter Tryd.func10, Tryd.ntmps10
    go_wp2_with fail
    refine (alive7_any w HO.out).mono ?_
    rintro e w1 ⟨rfl, hb1⟩
    go_wp2_with fail
    refine (great7_any a1 len1 cap1 acts w1 (IsActs.below HG.out hb1)).mono ?_
    rintro e w2 ⟨rfl, hb2⟩
    rw [hg]
    go_wp2_with fail
    refine (alive7_any w2 ((HO.out.below hb1 (Nat.le_refl _)).below hb2 (Nat.le_refl _))).mono ?_
    rintro e w3 ⟨rfl, hb3⟩
    go_wp2_with fail
    go_ret
    exact ⟨rfl, (hb1.trans (hb2.mono hb1.size)).trans (hb3.mono (Nat.le_trans hb1.size hb2.size))⟩
  · obtain ⟨B, hB⟩ : ∃ B, w.heap.size = B := ⟨_, rfl⟩
    go_enter Tryd.func10, Tryd.ntmps10
    go_wp2_with fail
    refine (alive7_any w HO.out).mono ?_
    rintro e w1 ⟨rfl, hb1⟩
    go_wp2_with fail
    refine (great7_any a1 len1 cap1 acts w1 (IsActs.below HG.out hb1)).mono ?_
    rintro e w2 ⟨rfl, hb2⟩
    have hlen : len1 ≤ 150 := by
      have h3 := HG.out.2.2.1
      have := hg
      unfold isGreat at this
      simp at this
      omega
    have hll : ∀ act, act ∈ acts → act.l.length ≤ 100 := by
      intro act hm
      have := hg
      unfold isGreat at this
      simp at this
      exact this.2 act hm
    have HLL : Hid _ := hll
    rw [Bool.not_eq_true] at hg
    rw [hg]
    have ho2 : Oth w2 := (HO.out.below hb1 (Nat.le_refl _)).below hb2 (Nat.le_refl _)
    have hb12 : Below w.heap.size w w2 := hb1.trans (hb2.mono hb1.size)
    have HO2 := Lib.hid ho2
    have HB2 := Lib.hid hb12
    have HA : Hid (∀ i, i < len1 → ∃ b off act, a1 = some ⟨b, off, none⟩ ∧ b < w.heap.size ∧ acts[i]? = some act ∧ IsAct w b (off + i * 4) act) := HG.out.2.2.2
    have hcap : len1 ≤ cap1 := HG.out.1
    have hcm := HG.out.2.1
    have HAL := Lib.hid HG.out.2.2.1
    unfold maxLen at hcm
    clear hg hll ho2 hb12 hb1 hb2 HG
    go_wp2_with fail
    refine (lw_new a0 H0.out w2 HO2.out).mono ?_
    rintro e w3 ⟨Wd, R, ln, N, H, rfl, hN, h3, hb3, hH3⟩
    have hrun : Run w w3 Wd R ln N acts 0 := Run.start ⟨H, h3, HB2.out.trans (hb3.mono HB2.out.size), fun k hk => Nat.le_trans HB2.out.size (hH3 k hk)⟩
    clear hN h3 hb3 hH3
    go_wp2_with fail
    go_loopg [24] len1 (fun g v24 wr => ∃ i : Nat, i + g = len1 ∧ v24 = .int .i64 i ∧ Run w wr Wd R ln N acts i)
    case atStart => exact ⟨0, by omega, rfl, hrun⟩
    case round =>
      clear hrun
      obtain ⟨i, hi, rfl, hrun⟩ := hrel
      by_cases hlt : i < len1
      · have hbel := hrun.bel
        obtain ⟨ab, ao, ⟨kd, p1, p2, ll⟩, rfl, hab, hact, la, la_n, lc, c0, c1, c2, c3, hl, _⟩ := HA.out i hlt
        have d0 := (hbel.cell (p := ⟨ab, ao + i * 4, none⟩) hab).trans c0
        have d1 := (hbel.cell (p := ⟨ab, ao + i * 4 + 1, none⟩) hab).trans c1
        have d2 := (hbel.cell (p := ⟨ab, ao + i * 4 + 2, none⟩) hab).trans c2
        have d3 := (hbel.cell (p := ⟨ab, ao + i * 4 + 3, none⟩) hab).trans c3
        have HL := Lib.hid hl
        have HACT := Lib.hid hact
        obtain ⟨C, hC⟩ : ∃ C, wr.heap.size = C := ⟨_, rfl⟩
        obtain ⟨W1, hW1⟩ : ∃ W1, wr.alloc (.cells #[.int .i64 kd, .int .i64 p1, .int .i64 p2, .slice la la_n lc] 59) = W1 := ⟨_, rfl⟩
        have hb1 : Below wr.heap.size wr W1 := by rw [← hW1]; exact (Below.refl _ _).alloc (Nat.le_refl _) _
        have hbox : W1.heap[C]? = some (.cells #[.int .i64 kd, .int .i64 p1, .int .i64 p2, .slice la la_n lc] 59 (0, 0)) := by rw [← hW1, ← hC]; exact heap_alloc_new wr _
        have g0 : W1.cell? ⟨C, 0, none⟩ = some (.int .i64 kd) := cell_at hbox 0
        have g1 : W1.cell? ⟨C, 1, none⟩ = some (.int .i64 p1) := cell_at hbox 1
        have g2 : W1.cell? ⟨C, 2, none⟩ = some (.int .i64 p2) := cell_at hbox 2
        have g3 : W1.cell? ⟨C, 3, none⟩ = some (.slice la la_n lc) := cell_at hbox 3
        have HR := Lib.hid (hrun.on hb1)
        clear c0 c1 c2 c3 hl hact hbel hrun hb1 hbox
        go_wp2_with fail
        refine Calls.mono (Run.act HR.out (by rw [HAL.out]; exact hlen) HLL.out HACT.out HL.out) ?_
        rintro e w4 ⟨rfl, hr4⟩
        have HINV := Lib.hid (Run.inv (N := N) (acts := acts) (i := i + 1))
        have HLS : Hid (∀ d, ((runS N ls0 (acts.take (i + 1))).wr d).length ≤ 15000 ∧ ((runS N ls0 (acts.take (i + 1))).rd d).length ≤ 15000) := Run.lens (by rw [HAL.out]; exact hlen) HLL.out
        have HR4 := Lib.hid hr4
        obtain ⟨H4, h4, hb4, hH4, hs4⟩ := hr4
        obtain ⟨S, hS⟩ : ∃ S, runS N ls0 (acts.take (i + 1)) = S := ⟨_, rfl⟩
        rw [hS] at h4 HINV HLS
        have q2 : w4.cell? ⟨Wd, 2, none⟩ = some (.pointer (some ⟨R, 0, none⟩)) := h4.cells 2
        have H4 := Lib.hid h4
        have HWB := hs4
        clear h4 hb4 hH4 hS d0 d1 d2 d3 g0 g1 g2 g3 HR
        clear HL hW1
        go_wp2_with fail
        refine Calls.mono (lw_transcript H4.out (fun e he => Nat.le_trans (HINV.out.evd e he).2.1 (by decide))) ?_
        rintro e w5 ⟨vT, rfl, ht, h5, hb5⟩
        generalize S.s.o false = o5
        have hfd := field63 vT o5 w5
        have HT := Lib.hid ht
        have H5 := Lib.hid h5
        have HB5 := Lib.hid hb5
        have HTL : Hid (total S.s.evs ≤ 262144) := by have h1 := HINV.out.sum; have h2 := HINV.out.lf; show _ ≤ _; omega
        have HEL : Hid (S.s.evs.length ≤ 4096) := HINV.out.len
        clear ht h5 hb5
        obtain ⟨sI, hsI⟩ : ∃ s, strOfNums (noted 1 S.s.evs) = s := ⟨_, rfl⟩
        obtain ⟨sO, hsO⟩ : ∃ s, strOfNums (noted 0 S.s.evs) = s := ⟨_, rfl⟩
        have HSI := Lib.hid hsI
        have HSO := Lib.hid hsO
        go_upto_region 11 with fail
        go_cut [9, 10] (fun v9 v10 w' => v9 = .string sI ∧ v10 = .string sO ∧ Below w5.heap.size w5 w')
        case first =>
          refine wp_region_noPanic ?_
          refine wp_region_held_drew (S := fun w' => Below w5.heap.size w5 w') (by kernel_rfl) (below_drewN (Below.refl _ _) 1) (fun hHeld => ?_)
          refine wpAnyH_take (i := 0) (oi := ⟨some 37, _, _, _, _, _⟩) (v := ?_) rfl (by kernel_rfl) (by kernel_rfl) (by kernel_rfl) (fun _ _ _ h => h) (Or.inl ⟨by rfl, ?_⟩) hHeld ?_
          rotate_left
          · intro w hSw; (try dsimp only at hSw); go_simp; try with_reducible rfl
          try simp only [Act.put, List.setIfInBounds_toArray, List.set_cons_zero, List.set_cons_succ]
          refine wpAnyH_take (i := 3) (oi := ⟨some 40, _, _, _, _, _⟩) (v := ?_) rfl (by kernel_rfl) (by kernel_rfl) (by kernel_rfl) (fun _ _ _ h => h) (Or.inl ⟨by rfl, ?_⟩) hHeld ?_
          rotate_left
          · intro w hSw; (try dsimp only at hSw); go_simp; try with_reducible rfl
          try simp only [Act.put, List.setIfInBounds_toArray, List.set_cons_zero, List.set_cons_succ]
          refine wpAnyH_ready (rs := [1]) (by kernel_rfl) (by simp) (AllReadyH.cons (o := ⟨some 38, _, _, _, _, _⟩) rfl (fun K hK => ?_) AllReadyH.nil)
          go_simp
          refine Calls.mono (ref_bytes (HT.out.below hHeld) 1 HTL.out HEL.out) ?_; rintro e y1 ⟨u1, rfl, hown1, hy1⟩; have hsl1 := Slc.of_own hown1; have hcv1 := hsl1.conv; clear hown1
          refine hK.out _ _ (hHeld.trans (hy1.mono hHeld.size)) (fun hHeld => ?_)
          clear hK K
          try simp only [Act.put, List.setIfInBounds_toArray, List.set_cons_zero, List.set_cons_succ]
          refine wpAnyH_ready (rs := [2, 4]) (by kernel_rfl) (by simp) (AllReadyH.cons (o := ⟨some 39, _, _, _, _, _⟩) rfl (fun K hK => ?_) (AllReadyH.cons (o := ⟨some 41, _, _, _, _, _⟩) rfl (fun K hK => ?_) AllReadyH.nil))
          · go_simp
            refine hK.out _ _ (hHeld) (fun hHeld => ?_)
            clear hK K
            try simp only [Act.put, List.setIfInBounds_toArray, List.set_cons_zero, List.set_cons_succ]
            refine wpAnyH_ready (rs := [4]) (by kernel_rfl) (by simp) (AllReadyH.cons (o := ⟨some 41, _, _, _, _, _⟩) rfl (fun K hK => ?_) AllReadyH.nil)
            go_simp
            refine Calls.mono (ref_bytes (HT.out.below hHeld) 0 HTL.out HEL.out) ?_; rintro e y2 ⟨u2, rfl, hown2, hy2⟩; have hsl2 := Slc.of_own hown2; have hcv2 := hsl2.conv; clear hown2
            refine hK.out _ _ (hHeld.trans (hy2.mono hHeld.size)) (fun hHeld => ?_)
            clear hK K
            try simp only [Act.put, List.setIfInBounds_toArray, List.set_cons_zero, List.set_cons_succ]
            refine wpAnyH_take (i := 6) (oi := ⟨some 9, _, _, _, _, _⟩) (v := ?_) rfl (by kernel_rfl) (by kernel_rfl) (by kernel_rfl) (fun _ _ _ h => h) (Or.inl ⟨by rfl, ?_⟩) hHeld ?_
            rotate_left
            · intro w hSw; (try dsimp only at hSw); go_simp; try with_reducible rfl
            try simp only [Act.put, List.setIfInBounds_toArray, List.set_cons_zero, List.set_cons_succ]
            refine wpAnyH_ready (rs := [5]) (by kernel_rfl) (by simp) (AllReadyH.cons (o := ⟨some 42, _, _, _, _, _⟩) rfl (fun K hK => ?_) AllReadyH.nil)
            go_simp
            refine hK.out _ _ (hHeld) (fun hHeld => ?_)
            clear hK K
            try simp only [Act.put, List.setIfInBounds_toArray, List.set_cons_zero, List.set_cons_succ]
            refine wpAnyH_take (i := 7) (oi := ⟨some 10, _, _, _, _, _⟩) (v := ?_) rfl (by kernel_rfl) (by kernel_rfl) (by kernel_rfl) (fun _ _ _ h => h) (Or.inl ⟨by rfl, ?_⟩) hHeld ?_
            rotate_left
            · intro w hSw; (try dsimp only at hSw); go_simp; try with_reducible rfl
            try simp only [Act.put, List.setIfInBounds_toArray, List.set_cons_zero, List.set_cons_succ]
            refine wpAnyH_done (by kernel_rfl) ?_ _
            refine NoPanic.normal ?_
            go_wp2_with fail
            go_meet
            exact ⟨by rw [← hsI], by rw [← hsO], hHeld⟩
          · go_simp
            refine Calls.mono (ref_bytes (HT.out.below hHeld) 0 HTL.out HEL.out) ?_; rintro e y2 ⟨u2, rfl, hown2, hy2⟩; have hsl2 := Slc.of_own hown2; have hcv2 := hsl2.conv; clear hown2; have hcv1' := (hsl1.below hy2).conv; clear hcv1
            refine hK.out _ _ (hHeld.trans (hy2.mono hHeld.size)) (fun hHeld => ?_)
            clear hK K
            try simp only [Act.put, List.setIfInBounds_toArray, List.set_cons_zero, List.set_cons_succ]
            refine wpAnyH_ready (rs := [2, 5]) (by kernel_rfl) (by simp) (AllReadyH.cons (o := ⟨some 39, _, _, _, _, _⟩) rfl (fun K hK => ?_) (AllReadyH.cons (o := ⟨some 42, _, _, _, _, _⟩) rfl (fun K hK => ?_) AllReadyH.nil))
            · go_simp
              refine hK.out _ _ (hHeld) (fun hHeld => ?_)
              clear hK K
              try simp only [Act.put, List.setIfInBounds_toArray, List.set_cons_zero, List.set_cons_succ]
              refine wpAnyH_take (i := 6) (oi := ⟨some 9, _, _, _, _, _⟩) (v := ?_) rfl (by kernel_rfl) (by kernel_rfl) (by kernel_rfl) (fun _ _ _ h => h) (Or.inl ⟨by rfl, ?_⟩) hHeld ?_
              rotate_left
              · intro w hSw; (try dsimp only at hSw); go_simp; try with_reducible rfl
              try simp only [Act.put, List.setIfInBounds_toArray, List.set_cons_zero, List.set_cons_succ]
              refine wpAnyH_ready (rs := [5]) (by kernel_rfl) (by simp) (AllReadyH.cons (o := ⟨some 42, _, _, _, _, _⟩) rfl (fun K hK => ?_) AllReadyH.nil)
              go_simp
              refine hK.out _ _ (hHeld) (fun hHeld => ?_)
              clear hK K
              try simp only [Act.put, List.setIfInBounds_toArray, List.set_cons_zero, List.set_cons_succ]
              refine wpAnyH_take (i := 7) (oi := ⟨some 10, _, _, _, _, _⟩) (v := ?_) rfl (by kernel_rfl) (by kernel_rfl) (by kernel_rfl) (fun _ _ _ h => h) (Or.inl ⟨by rfl, ?_⟩) hHeld ?_
              rotate_left
              · intro w hSw; (try dsimp only at hSw); go_simp; try with_reducible rfl
              try simp only [Act.put, List.setIfInBounds_toArray, List.set_cons_zero, List.set_cons_succ]
              refine wpAnyH_done (by kernel_rfl) ?_ _
              refine NoPanic.normal ?_
              go_wp2_with fail
              go_meet
              exact ⟨by rw [← hsI], by rw [← hsO], hHeld⟩
            · go_simp
              refine hK.out _ _ (hHeld) (fun hHeld => ?_)
              clear hK K
              try simp only [Act.put, List.setIfInBounds_toArray, List.set_cons_zero, List.set_cons_succ]
              refine wpAnyH_ready (rs := [2]) (by kernel_rfl) (by simp) (AllReadyH.cons (o := ⟨some 39, _, _, _, _, _⟩) rfl (fun K hK => ?_) AllReadyH.nil)
              go_simp
              refine hK.out _ _ (hHeld) (fun hHeld => ?_)
              clear hK K
              try simp only [Act.put, List.setIfInBounds_toArray, List.set_cons_zero, List.set_cons_succ]
              refine wpAnyH_take (i := 6) (oi := ⟨some 9, _, _, _, _, _⟩) (v := ?_) rfl (by kernel_rfl) (by kernel_rfl) (by kernel_rfl) (fun _ _ _ h => h) (Or.inl ⟨by rfl, ?_⟩) hHeld ?_
              rotate_left
              · intro w hSw; (try dsimp only at hSw); go_simp; try with_reducible rfl
              try simp only [Act.put, List.setIfInBounds_toArray, List.set_cons_zero, List.set_cons_succ]
              refine wpAnyH_take (i := 7) (oi := ⟨some 10, _, _, _, _, _⟩) (v := ?_) rfl (by kernel_rfl) (by kernel_rfl) (by kernel_rfl) (fun _ _ _ h => h) (Or.inl ⟨by rfl, ?_⟩) hHeld ?_
              rotate_left
              · intro w hSw; (try dsimp only at hSw); go_simp; try with_reducible rfl
              try simp only [Act.put, List.setIfInBounds_toArray, List.set_cons_zero, List.set_cons_succ]
              refine wpAnyH_done (by kernel_rfl) ?_ _
              refine NoPanic.normal ?_
              go_wp2_with fail
              go_meet
              exact ⟨by rw [← hsI], by rw [← hsO], hHeld⟩
        case rest =>
        obtain ⟨rfl, rfl, hbc⟩ := hcut
        have HC := Lib.hid (H5.out.below hbc)
        have HBC : Hid (Below w.heap.size w wc) := (HR4.out.bel.trans (HB5.out.mono hs4)).trans (hbc.mono (Nat.le_trans hs4 HB5.out.size))
        have HRC : Hid (Run w wc Wd R ln N acts (i + 1)) := (HR4.out.on HB5.out).on hbc
        obtain ⟨P, hP⟩ : ∃ P, ln true = P := ⟨_, rfl⟩
        obtain ⟨P', hP'⟩ : ∃ P, ln false = P := ⟨_, rfl⟩
        obtain ⟨r1, hr1⟩ : ∃ s, strOfNums (S.rd true) = s := ⟨_, rfl⟩
        obtain ⟨r0, hr0⟩ : ∃ s, strOfNums (S.rd false) = s := ⟨_, rfl⟩
        obtain ⟨x0, hx0⟩ : ∃ s, strOfNums (S.wr true) = s := ⟨_, rfl⟩
        obtain ⟨x1, hx1⟩ : ∃ s, strOfNums (S.wr false) = s := ⟨_, rfl⟩
        have q0 : wc.cell? ⟨Wd, 0, none⟩ = some (.pointer (some ⟨P, 0, none⟩)) := by rw [← hP]; exact HC.out.cells 0
        have q1 : wc.cell? ⟨Wd, 1, none⟩ = some (.pointer (some ⟨P', 0, none⟩)) := by rw [← hP']; exact HC.out.cells 1
        have q2' : wc.cell? ⟨Wd, 2, none⟩ = some (.pointer (some ⟨R, 0, none⟩)) := HC.out.cells 2
        have q3 : wc.cell? ⟨Wd, 3, none⟩ = some (.string x0) := by rw [← hx0]; exact HC.out.cells 3
        have q4 : wc.cell? ⟨Wd, 4, none⟩ = some (.string x1) := by rw [← hx1]; exact HC.out.cells 4
        have q5 : wc.cell? ⟨Wd, 5, none⟩ = some (.string r0) := by rw [← hr0]; exact HC.out.cells 5
        have q6 : wc.cell? ⟨Wd, 6, none⟩ = some (.string r1) := by rw [← hr1]; exact HC.out.cells 6
        obtain ⟨n1, hn1⟩ : ∃ n, (S.rd true).length = n := ⟨_, rfl⟩
        obtain ⟨n0, hn0⟩ : ∃ n, (S.rd false).length = n := ⟨_, rfl⟩
        obtain ⟨m1, hm1⟩ : ∃ n, ((S.s.l false).x true).length = n := ⟨_, rfl⟩
        obtain ⟨m0, hm0⟩ : ∃ n, ((S.s.l true).x false).length = n := ⟨_, rfl⟩
        obtain ⟨k1, hk1⟩ : ∃ n, (S.s.w true).length = n := ⟨_, rfl⟩
        obtain ⟨k0, hk0⟩ : ∃ n, (S.s.w false).length = n := ⟨_, rfl⟩
        have hg1 : noted 1 S.s.evs = S.rd true ++ ((S.s.l false).x true ++ S.s.w true) := HINV.out.gone true
        have hg0 : noted 0 S.s.evs = S.rd false ++ ((S.s.l true).x false ++ S.s.w false) := HINV.out.gone false
        have hc1 : S.wr true = noted 1 S.s.evs ++ (S.s.l true).x true := HINV.out.come true
        have hc0 : S.wr false = noted 0 S.s.evs ++ (S.s.l false).x false := HINV.out.come false
        have hl1 := (HLS.out true).1
        have hl0 := (HLS.out false).1
        have hz1 : r1.size = n1 := by rw [← hr1, strOfNums_size, hn1]
        have hz0 : r0.size = n0 := by rw [← hr0, strOfNums_size, hn0]
        have hzI : sI.size = n1 + m1 + k1 := by rw [← HSI.out, strOfNums_size, hg1, List.length_append, List.length_append, hn1, hm1, hk1]; omega
        have hzO : sO.size = n0 + m0 + k0 := by rw [← HSO.out, strOfNums_size, hg0, List.length_append, List.length_append, hn0, hm0, hk0]; omega
        have hI : (noted 1 S.s.evs).length + ((S.s.l true).x true).length ≤ 15000 := by rw [hc1, List.length_append] at hl1; exact hl1
        have hO : (noted 0 S.s.evs).length + ((S.s.l false).x false).length ≤ 15000 := by rw [hc0, List.length_append] at hl0; exact hl0
        have hI2 : n1 + m1 + k1 ≤ 15000 := by rw [hg1, List.length_append, List.length_append, hn1, hm1, hk1] at hI; omega
        have hO2 : n0 + m0 + k0 ≤ 15000 := by rw [hg0, List.length_append, List.length_append, hn0, hm0, hk0] at hO; omega
        have b1 : Hid (∀ w, Calls Tryd.prog 36 #[.string r1, .string sI] w fun e w' => e = .returned (.bool true) ∧ w = w') := by
          intro w
          rw [← hr1, ← HSI.out, hg1]
          exact begins_any _ _ (by rw [List.length_append, hn1, hm1, hk1]; omega) w
        have b2 : Hid (∀ w, Calls Tryd.prog 36 #[.string sI, .string x0] w fun e w' => e = .returned (.bool true) ∧ w = w') := by
          intro w
          rw [← hx0, ← HSI.out, hc1]
          exact begins_any _ _ (by omega) w
        have b3 : Hid (∀ w, Calls Tryd.prog 36 #[.string r0, .string sO] w fun e w' => e = .returned (.bool true) ∧ w = w') := by
          intro w
          rw [← hr0, ← HSO.out, hg0]
          exact begins_any _ _ (by rw [List.length_append, hn0, hm0, hk0]; omega) w
        have b4 : Hid (∀ w, Calls Tryd.prog 36 #[.string sO, .string x1] w fun e w' => e = .returned (.bool true) ∧ w = w') := by
          intro w
          rw [← hx1, ← HSO.out, hc0]
          exact begins_any _ _ (by omega) w
        have HP := Lib.hid hP
        have HP' := Lib.hid hP'
        have HM1 := Lib.hid hm1
        have HM0 := Lib.hid hm0
        have HK1 := Lib.hid hk1
        have HK0 := Lib.hid hk0
        clear hP hP' hr1 hr0 hx0 hx1 hn1 hn0 hm1 hm0 hk1 hk0 hg1 hg0 hc1 hc0 hl1 hl0 hI hO hbc hsI hsO q2 hfd
        go_wp2_with fail
        refine Calls.mono (b1.out wc) ?_
        rintro e wx ⟨rfl, rfl⟩
        go_wp2_with fail
        refine Calls.mono (b2.out wc) ?_
        rintro e wx ⟨rfl, rfl⟩
        go_wp2_with fail
        refine Calls.mono (b3.out wc) ?_
        rintro e wx ⟨rfl, rfl⟩
        go_wp2_with fail
        refine Calls.mono (b4.out wc) ?_
        rintro e wx ⟨rfl, rfl⟩
        go_wp2_with fail
        clear b1 b2 b3 b4
        have e1 : Hid (∀ k, Calls Tryd.prog 21 #[.pointer (some ⟨P', 0, none⟩), .int .i64 1] (wc.drewN k) fun e w' => e = .returned (.int .i64 m1) ∧ ∃ m, w' = wc.drewN m) := lw_waits_q HC.out false true 1 rfl P' HP'.out m1 HM1.out
        have e2 : Hid (∀ k, Calls Tryd.prog 21 #[.pointer (some ⟨P, 0, none⟩), .int .i64 0] (wc.drewN k) fun e w' => e = .returned (.int .i64 m0) ∧ ∃ m, w' = wc.drewN m) := lw_waits_q HC.out true false 0 rfl P HP.out m0 HM0.out
        have e3 : Hid (∀ k, Calls Tryd.prog 37 #[.pointer (some ⟨R, 0, none⟩), .int .i64 1] (wc.drewN k) fun e w' => e = .returned (.int .i64 k1) ∧ ∃ m, w' = wc.drewN m) := lw_rwaits_q HC.out true 1 rfl k1 HK1.out
        have e4 : Hid (∀ k, Calls Tryd.prog 37 #[.pointer (some ⟨R, 0, none⟩), .int .i64 0] (wc.drewN k) fun e w' => e = .returned (.int .i64 k0) ∧ ∃ m, w' = wc.drewN m) := lw_rwaits_q HC.out false 0 rfl k0 HK0.out
        go_quiet (first | (with_reducible exact e1.out _) | (with_reducible exact e2.out _) | (with_reducible exact e3.out _) | (with_reducible exact e4.out _))
        go_wp2_with fail
        go_roundg (len1 - (i + 1))
        case measure => omega
        case rel => exact ⟨i + 1, by omega, by go_num, HRC.out.on (below_drewN (Below.refl _ _) _)⟩
      · have hb := hrun.bel
        have HB := Lib.hid hb
        clear hb hrun
        go_wp2_with fail
        go_ret
        exact ⟨rfl, HB.out⟩

end Go.Proofs.YthpdphbppapkhaaDoor.relayPrefix
