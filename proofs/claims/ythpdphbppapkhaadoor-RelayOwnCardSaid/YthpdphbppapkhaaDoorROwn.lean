/-
  The walk of RelayOwn. Condition: the table 'other' reads as the program's text lays it.
-/
import Derived.Test.YthpdphbppapkhaaDoorOwn7
import Derived.BigQuiet
import Derived.Deep.RegionHeld3
namespace Go.Proofs.YthpdphbppapkhaaDoor.relayOwn
open Go.RowKit qb

set_option maxRecDepth 100000 in
set_option maxHeartbeats 4000000 in
theorem walk (a0 : Int) (a1 : Option Addr) (len1 cap1 : Nat) (acts : List Act) (w : World) (h0 : I64 a0) (h1 : IsActs w a1 len1 cap1 acts) (ho : Oth w) :
    Calls Tryd.prog 9 #[.int .i64 a0, .slice a1 len1 cap1] w fun e w' => e = .returned (.bool true) ∧ Below w.heap.size w w' := by
  have HO := Lib.hid ho
  have HG := Lib.hid h1
  have H0 := Lib.hid h0
  clear ho h1 h0
  by_cases hg : isGreat 150 acts = true
  · go_enter Tryd.func9, Tryd.ntmps9
    go_wp2_with fail
    refine (alive7_any w HO.out).mono ?_
    rintro e w1 ⟨rfl, hb1⟩
    go_wp2_with fail
    refine (great7_any a1 len1 cap1 acts w1 (IsActs.below HG.out hb1)).mono ?_
    rintro e w2 ⟨rfl, hb2⟩
    rw [hg]
    go_wp2_with fail
    refine (alive7_any w2 ((HO.out.below hb1 (Nat.le_refl _)).below hb2 (Nat.le_refl _))).mono ?_
    rintro e w3 ⟨rfl, hb3⟩
    go_wp2_with fail
    go_ret
    exact ⟨rfl, (hb1.trans (hb2.mono hb1.size)).trans (hb3.mono (Nat.le_trans hb1.size hb2.size))⟩
  · obtain ⟨B, hB⟩ : ∃ B, w.heap.size = B := ⟨_, rfl⟩
    go_enter Tryd.func9, Tryd.ntmps9
    go_wp2_with fail
    refine (alive7_any w HO.out).mono ?_
    rintro e w1 ⟨rfl, hb1⟩
    go_wp2_with fail
    refine (great7_any a1 len1 cap1 acts w1 (IsActs.below HG.out hb1)).mono ?_
    rintro e w2 ⟨rfl, hb2⟩
    have hlen : len1 ≤ 150 := by
      have h3 := HG.out.2.2.1
      have := hg
      unfold isGreat at this
      simp at this
      omega
    have hll : ∀ act, act ∈ acts → act.l.length ≤ 100 := by
      intro act hm
      have := hg
      unfold isGreat at this
      simp at this
      exact this.2 act hm
    have HLL : Hid _ := hll
    rw [Bool.not_eq_true] at hg
    rw [hg]
    have ho2 : Oth w2 := (HO.out.below hb1 (Nat.le_refl _)).below hb2 (Nat.le_refl _)
    have hb12 : Below w.heap.size w w2 := hb1.trans (hb2.mono hb1.size)
    have HO2 := Lib.hid ho2
    have HB2 := Lib.hid hb12
    have HA : Hid (∀ i, i < len1 → ∃ b off act, a1 = some ⟨b, off, none⟩ ∧ b < w.heap.size ∧ acts[i]? = some act ∧ IsAct w b (off + i * 4) act) := HG.out.2.2.2
    have hcap : len1 ≤ cap1 := HG.out.1
    have hcm := HG.out.2.1
    have HAL := Lib.hid HG.out.2.2.1
    unfold maxLen at hcm
    clear hg hll ho2 hb12 hb1 hb2 HG
    go_wp2_with fail
    refine (lw_new a0 H0.out w2 HO2.out).mono ?_
    rintro e w3 ⟨Wd, R, ln, N, H, rfl, hN, h3, hb3, hH3⟩
    have HN := Lib.hid hN
    have H3 := Lib.hid h3
    have HB3 := Lib.hid hb3
    have HH3 : Hid _ := hH3
    have HO3 := Lib.hid (HO2.out.below hb3 (Nat.le_refl _))
    clear hN h3 hb3 hH3
    go_wp2_with fail
    refine (lw_new a0 H0.out w3 HO3.out).mono ?_
    rintro e w4 ⟨Wd', R', ln', N', H', rfl, hN', h4, hb4, hH4⟩
    obtain rfl : N' = N := by have := HN.out; omega
    have hrun : Two w w4 Wd R ln Wd' R' ln' N' (runS N' ls0 (acts.take 0)) (runS N' ls0 (acts.take 0)) 0 := by
      have s2 := HB2.out.size
      have s3 := HB3.out.size
      refine ⟨H, H', H3.out.below hb4, h4, fun k hk hm => ?_, (HB2.out.trans (HB3.out.mono s2)).trans (hb4.mono (by omega)), fun k hk => ?_, fun k hk => ?_, ?_, ?_, ?_⟩
      · have := H3.out.lt k hk; have := hH4 k hm; omega
      · have := HH3.out k hk; omega
      · have := hH4 k hk; omega
      · have := hb4.size; omega
      · exact fun hm => by have := HH3.out 0 hm; have := HO.out.pos; omega
      · exact fun hm => by have := hH4 0 hm; have := HO.out.pos; omega
    clear hN' h4 hb4 hH4
    go_wp2_with fail
    go_loopg [31] len1 (fun g v31 wr => ∃ i C : Nat, i + g = len1 ∧ v31 = .int .i64 i ∧ Two w wr Wd R ln Wd' R' ln' N' (runS N' ls0 (acts.take i)) (runS N' ls0 (acts.take i)) C)
    case atStart => exact ⟨0, 0, by omega, rfl, hrun⟩
    case round =>
      clear hrun
      obtain ⟨i, C0, hi, rfl, hrun⟩ := hrel
      by_cases hlt : i < len1
      · have hbel := hrun.bel
        obtain ⟨ab, ao, ⟨kd, p1, p2, ll⟩, rfl, hab, hact, la, la_n, lc, c0, c1, c2, c3, hl, _⟩ := HA.out i hlt
        have d0 := (hbel.cell (p := ⟨ab, ao + i * 4, none⟩) hab).trans c0
        have d1 := (hbel.cell (p := ⟨ab, ao + i * 4 + 1, none⟩) hab).trans c1
        have d2 := (hbel.cell (p := ⟨ab, ao + i * 4 + 2, none⟩) hab).trans c2
        have d3 := (hbel.cell (p := ⟨ab, ao + i * 4 + 3, none⟩) hab).trans c3
        have HL := Lib.hid hl
        have HACT := Lib.hid hact
        obtain ⟨C, hC⟩ : ∃ C, wr.heap.size = C := ⟨_, rfl⟩
        obtain ⟨W1, hW1⟩ : ∃ W1, wr.alloc (.cells #[.int .i64 kd, .int .i64 p1, .int .i64 p2, .slice la la_n lc] 59) = W1 := ⟨_, rfl⟩
        have hb1 : Below wr.heap.size wr W1 := by rw [← hW1]; exact (Below.refl _ _).alloc (Nat.le_refl _) _
        have hbox : W1.heap[C]? = some (.cells #[.int .i64 kd, .int .i64 p1, .int .i64 p2, .slice la la_n lc] 59 (0, 0)) := by rw [← hW1, ← hC]; exact heap_alloc_new wr _
        have g0 : W1.cell? ⟨C, 0, none⟩ = some (.int .i64 kd) := cell_at hbox 0
        have g1 : W1.cell? ⟨C, 1, none⟩ = some (.int .i64 p1) := cell_at hbox 1
        have g2 : W1.cell? ⟨C, 2, none⟩ = some (.int .i64 p2) := cell_at hbox 2
        have g3 : W1.cell? ⟨C, 3, none⟩ = some (.slice la la_n lc) := cell_at hbox 3
        have HR := Lib.hid (hrun.on hb1)
        rw [hC] at HR
        have HBX := Lib.hid hbox
        have hCl : C < W1.heap.size := (Array.getElem?_eq_some_iff.1 hbox).1
        have HLS : Hid (∀ d, ((runS N' ls0 (acts.take i)).wr d).length ≤ 15000 ∧ ((runS N' ls0 (acts.take i)).rd d).length ≤ 15000) := Run.lens (by rw [HAL.out]; exact hlen) HLL.out
        have HXL := Lib.hid (HLL.out _ (List.mem_of_getElem? hact))
        obtain ⟨S, hS⟩ : ∃ S, runS N' ls0 (acts.take i) = S := ⟨_, rfl⟩
        have hS1 : runS N' ls0 (acts.take (i + 1)) = (doS N' S ⟨kd, p1, p2, ll⟩).1 := by
          rw [List.take_add_one, hact]
          show runS N' ls0 (acts.take i ++ [⟨kd, p1, p2, ll⟩]) = _
          rw [runS_app, hS]
        rw [hS] at HR HLS
        obtain ⟨r, hr⟩ : ∃ r, (doS N' S ⟨kd, p1, p2, ll⟩).2 = r := ⟨_, rfl⟩
        have HRR := Lib.hid hr
        have HS1 := Lib.hid hS1
        clear c0 c1 c2 c3 hl hact hbel hrun hb1 hbox hS hr hS1
        go_upto_region 9 with fail
        go_cut [41] (fun v41 w' => v41 = .bool false ∧ Two w w' Wd R ln Wd' R' ln' N' (runS N' ls0 (acts.take (i + 1))) (runS N' ls0 (acts.take (i + 1))) C)
        case first =>
          refine wp_region_noPanic ?_
          refine wp_region_held_drew (S := fun w' => w'.cell? ⟨C, 0, none⟩ = some (.int .i64 kd) ∧ w'.cell? ⟨C, 1, none⟩ = some (.int .i64 p1) ∧ w'.cell? ⟨C, 2, none⟩ = some (.int .i64 p2) ∧ w'.cell? ⟨C, 3, none⟩ = some (.slice la la_n lc)) (by kernel_rfl) (⟨g0, g1, g2, g3⟩) (fun hHeld => ?_)
          refine wpAnyH_take (i := 0) (oi := ⟨some 35, _, _, _, _, _⟩) (v := ?_) rfl (by kernel_rfl) (by kernel_rfl) (by kernel_rfl) (fun _ _ _ h => h) (Or.inl ⟨by rfl, ?_⟩) hHeld ?_
          rotate_left
          · intro w hSw; (try dsimp only at hSw); go_simp; try with_reducible rfl
          try simp only [Act.put, List.setIfInBounds_toArray, List.set_cons_zero, List.set_cons_succ]
          refine wpAnyH_take (i := 1) (oi := ⟨some 36, _, _, _, _, _⟩) (v := ?_) rfl (by kernel_rfl) (by kernel_rfl) (by kernel_rfl) (fun _ _ _ h => h) (Or.inl ⟨by rfl, ?_⟩) hHeld ?_
          rotate_left
          · intro w hSw; (try dsimp only at hSw); go_simp; try with_reducible rfl
          try simp only [Act.put, List.setIfInBounds_toArray, List.set_cons_zero, List.set_cons_succ]
          refine wpAnyH_take (i := 3) (oi := ⟨some 38, _, _, _, _, _⟩) (v := ?_) rfl (by kernel_rfl) (by kernel_rfl) (by kernel_rfl) (fun _ _ _ h => h) (Or.inl ⟨by rfl, ?_⟩) hHeld ?_
          rotate_left
          · intro w hSw; (try dsimp only at hSw); go_simp; try with_reducible rfl
          try simp only [Act.put, List.setIfInBounds_toArray, List.set_cons_zero, List.set_cons_succ]
          refine wpAnyH_take (i := 4) (oi := ⟨some 39, _, _, _, _, _⟩) (v := ?_) rfl (by kernel_rfl) (by kernel_rfl) (by kernel_rfl) (fun _ _ _ h => h) (Or.inl ⟨by rfl, ?_⟩) hHeld ?_
          rotate_left
          · intro w hSw; (try dsimp only at hSw); go_simp; try with_reducible rfl
          try simp only [Act.put, List.setIfInBounds_toArray, List.set_cons_zero, List.set_cons_succ]
          refine wpAnyH_ready (rs := [2]) (by kernel_rfl) (by simp) (AllReadyH.cons (o := ⟨some 37, _, _, _, _, _⟩) rfl (fun K hK => ?_) AllReadyH.nil)
          go_simp
          refine Calls.mono ((HR.out.on' (below_drewN (Below.refl _ _) 1)).first hCl ⟨kd, p1, p2, ll⟩ HXL.out HL.out (fun d => by have := (HLS.out d).1; omega) (fun d => by have := (HLS.out d).2; omega)) ?_; rw [HRR.out]; rintro e y1 ⟨rfl, hy1, hyc1, hyl1⟩; have hbx1 := hyc1.trans HBX.out; have HY1 := Lib.hid hy1; clear hy1 hyc1
          refine hK.out _ _ (⟨cell_at hbx1 0, cell_at hbx1 1, cell_at hbx1 2, cell_at hbx1 3⟩) (fun hHeld => ?_)
          clear hK K
          try simp only [Act.put, List.setIfInBounds_toArray, List.set_cons_zero, List.set_cons_succ]
          refine wpAnyH_ready (rs := [5]) (by kernel_rfl) (by simp) (AllReadyH.cons (o := ⟨some 40, _, _, _, _, _⟩) rfl (fun K hK => ?_) AllReadyH.nil)
          go_simp
          refine Calls.mono (HY1.out.second hyl1 ⟨kd, p1, p2, ll⟩ HXL.out HL.out (fun d => by have := (HLS.out d).1; omega) (fun d => by have := (HLS.out d).2; omega)) ?_; rw [HRR.out]; rintro e y2 ⟨rfl, hy2, hyc2, hyl2⟩; have hbx2 := hyc2.trans hbx1; have HY2 := Lib.hid hy2; clear hy2 hyc2
          refine hK.out _ _ (⟨cell_at hbx2 0, cell_at hbx2 1, cell_at hbx2 2, cell_at hbx2 3⟩) (fun hHeld => ?_)
          clear hK K
          try simp only [Act.put, List.setIfInBounds_toArray, List.set_cons_zero, List.set_cons_succ]
          refine wpAnyH_take (i := 6) (oi := ⟨some 41, _, _, _, _, _⟩) (v := ?_) rfl (by kernel_rfl) (by kernel_rfl) (by kernel_rfl) (fun _ _ _ h => h) (Or.inl ⟨by rfl, ?_⟩) hHeld ?_
          rotate_left
          · intro w hSw; (try dsimp only at hSw); go_simp; try with_reducible rfl
          try simp only [Act.put, List.setIfInBounds_toArray, List.set_cons_zero, List.set_cons_succ]
          refine wpAnyH_done (by kernel_rfl) ?_ _
          refine NoPanic.normal ?_
          go_wp2_with fail
          go_meet
          exact ⟨rfl, by rw [HS1.out]; exact HY2.out⟩
        case rest =>
        obtain ⟨rfl, hrun⟩ := hcut
        clear HR HBX g0 g1 g2 g3 HL HACT HS1 HRR HLS HXL d0 d1 d2 d3 hCl hW1
        have HINV := Lib.hid (Run.inv (N := N') (acts := acts) (i := i + 1))
        have HTW := Lib.hid hrun
        obtain ⟨H4, h4⟩ := hrun.lw
        obtain ⟨S, hS⟩ : ∃ S, runS N' ls0 (acts.take (i + 1)) = S := ⟨_, rfl⟩
        rw [hS] at h4 HINV
        have q2 : wc.cell? ⟨Wd, 2, none⟩ = some (.pointer (some ⟨R, 0, none⟩)) := h4.cells 2
        have H4 := Lib.hid h4
        clear h4 hS hrun
        go_wp2_with fail
        refine Calls.mono (lw_transcript H4.out (fun e he => Nat.le_trans (HINV.out.evd e he).2.1 (by decide))) ?_
        rintro e w5 ⟨vT, rfl, ht, h5, hb5⟩
        generalize S.s.o false = o5
        obtain ⟨sp, sc, gg, D, Q, rfl, hle, hcm5, hmut⟩ := Mut.start ht hb5 o5
        obtain ⟨n, hn⟩ : ∃ n, S.s.evs.length = n := ⟨_, rfl⟩
        have hnl : n ≤ 4096 := by rw [← hn]; exact HINV.out.len
        rw [hn] at hmut hle ⊢
        unfold maxLen at hcm5
        have HM := Lib.hid hmut
        obtain ⟨T, hT⟩ : ∃ T, w5.heap.size = T := ⟨_, rfl⟩
        obtain ⟨Z, hZ⟩ : ∃ Z, wc.heap.size = Z := ⟨_, rfl⟩
        rw [hT, hZ] at HM
        clear ht h5 hb5 hmut hn
        go_wp2_with fail
        obtain ⟨w6, hw6⟩ : ∃ w6, w5.alloc (.cells #[.slice sp n sc, .bool o5] 63) = w6 := ⟨_, rfl⟩
        rw [hw6] at HM ⊢
        go_loopg [50] n (fun g v50 wr => ∃ j : Nat, j + g = n ∧ v50 = .int .i64 j ∧ Hid (Mut wc wr Z T gg n sp sc o5 D Q))
        case atStart => exact ⟨0, by omega, rfl, HM⟩
        case round =>
          clear HM
          obtain ⟨j, hj, rfl, HM⟩ := hrel
          by_cases hlt2 : j < n
          · obtain ⟨hsp, t0, c2, ⟨time, c1⟩, cf, hkc, hcc⟩ := HM.out.row hlt2
            obtain ⟨a, ha⟩ : ∃ a, (D j).1 = a := ⟨_, rfl⟩
            obtain ⟨k, hk⟩ : ∃ k, (D j).2.1 = k := ⟨_, rfl⟩
            obtain ⟨c, hc⟩ : ∃ c, (D j).2.2 = c := ⟨_, rfl⟩
            rw [ha, hk, hc] at c2
            rw [hk, hc] at hkc
            rw [hc] at hcc
            unfold maxLen at hcc
            have HDA := Lib.hid ha
            have HDK := Lib.hid hk
            have HDC := Lib.hid hc
            rw [hsp] at t0
            have HSP := Lib.hid hsp
            clear ha hk hc hsp
            go_wp2_with fail
            go_loopg [60] k (fun g v60 wr2 => ∃ m : Nat, m + g = k ∧ v60 = .int .i64 m ∧ Hid (Mut wc wr2 Z T gg n sp sc o5 D Q))
            case atStart => exact ⟨0, by omega, rfl, HM⟩
            case round =>
              clear HM t0 c2 c1 cf
              obtain ⟨m, hm, rfl, HM⟩ := hrel
              obtain ⟨_, t0, c2, ⟨time2, c1⟩, cf, _, _⟩ := HM.out.row hlt2
              rw [HDA.out, HDK.out, HDC.out] at c2
              rw [HSP.out] at t0
              by_cases hlt3 : m < k
              · obtain ⟨b, off, x, e, hbQ, x0, xf⟩ := HM.out.bytes hlt2 (j := m) (by rw [HDK.out]; exact hlt3)
                obtain rfl : a = some ⟨b, off, none⟩ := by rw [← HDA.out, e]
                have HQ := Lib.hid hbQ
                clear e hbQ
                go_wp2_with fail
                go_roundg (k - (m + 1))
                case measure => omega
                case rel => exact ⟨m + 1, by omega, by go_num, HM.out.byte HQ.out _ _⟩
              · go_wp2_with fail
                go_roundg (n - (j + 1))
                case measure => omega
                case rel => exact ⟨j + 1, by omega, by go_num, HM.out.time (by omega) j 7⟩
          · have h7 := HTW.out
            have HT7 := Lib.hid (HTW.out.on' (by rw [hZ]; exact HM.out.bel))
            clear HM h7
            go_wp2_with fail
            go_roundg (len1 - (i + 1))
            case measure => omega
            case rel => exact ⟨i + 1, C, by omega, by go_num, HT7.out⟩
      · have hbel := hrun.bel
        have HINV := Lib.hid (Run.inv (N := N') (acts := acts) (i := i))
        obtain ⟨H4, h4⟩ := hrun.lw
        obtain ⟨H5, h5⟩ := hrun.lw'
        obtain ⟨S, hS⟩ : ∃ S, runS N' ls0 (acts.take i) = S := ⟨_, rfl⟩
        rw [hS] at h4 h5 HINV
        obtain ⟨r0, hr0⟩ : ∃ s, strOfNums (S.rd false) = s := ⟨_, rfl⟩
        obtain ⟨r1, hr1⟩ : ∃ s, strOfNums (S.rd true) = s := ⟨_, rfl⟩
        have HS : Hid (∀ W, Below wr.heap.size wr W → Below wr.heap.size wr W ∧ W.cell? ⟨Wd, 2, none⟩ = some (.pointer (some ⟨R, 0, none⟩)) ∧ W.cell? ⟨Wd', 2, none⟩ = some (.pointer (some ⟨R', 0, none⟩)) ∧ W.cell? ⟨Wd, 5, none⟩ = some (.string r0) ∧ W.cell? ⟨Wd, 6, none⟩ = some (.string r1) ∧ W.cell? ⟨Wd', 5, none⟩ = some (.string r0) ∧ W.cell? ⟨Wd', 6, none⟩ = some (.string r1)) := by
          intro W hb
          have a1 := h4.below hb
          have a2 := h5.below hb
          rw [← hr0, ← hr1]
          exact ⟨hb, a1.cells 2, a2.cells 2, a1.cells 5, a1.cells 6, a2.cells 5, a2.cells 6⟩
        have hsz : w.heap.size ≤ wr.heap.size := hbel.size
        have H4 := Lib.hid h4
        have H5 := Lib.hid h5
        have HB := Lib.hid hbel
        have HDL : Hid (∀ e, e ∈ S.s.evs → e.data.length ≤ 500000) := fun e he => Nat.le_trans (HINV.out.evd e he).2.1 (by decide)
        clear h4 h5 hS hr0 hr1 hbel hrun
        have heq36 := eqAt36 r0 r1
        go_upto_region 23 with fail
        refine wp_region_noPanic ?_
        refine wp_region_held_drew (S := fun W => Below wr.heap.size wr W ∧ W.cell? ⟨Wd, 2, none⟩ = some (.pointer (some ⟨R, 0, none⟩)) ∧ W.cell? ⟨Wd', 2, none⟩ = some (.pointer (some ⟨R', 0, none⟩)) ∧ W.cell? ⟨Wd, 5, none⟩ = some (.string r0) ∧ W.cell? ⟨Wd, 6, none⟩ = some (.string r1) ∧ W.cell? ⟨Wd', 5, none⟩ = some (.string r0) ∧ W.cell? ⟨Wd', 6, none⟩ = some (.string r1)) (by kernel_rfl) (HS.out _ (below_drewN (Below.refl _ _) 1)) (fun hHeld => ?_)
        refine wpAnyH_take (i := 0) (oi := ⟨some 82, _, _, _, _, _⟩) (v := ?_) rfl (by kernel_rfl) (by kernel_rfl) (by kernel_rfl) (fun _ _ _ h => h) (Or.inl ⟨by rfl, ?_⟩) hHeld ?_
        rotate_left
        · intro w hSw; (try dsimp only at hSw); go_simp; try with_reducible rfl
        try simp only [Act.put, List.setIfInBounds_toArray, List.set_cons_zero, List.set_cons_succ]
        refine wpAnyH_take (i := 1) (oi := ⟨some 83, _, _, _, _, _⟩) (v := ?_) rfl (by kernel_rfl) (by kernel_rfl) (by kernel_rfl) (fun _ _ _ h => h) (Or.inl ⟨by rfl, ?_⟩) hHeld ?_
        rotate_left
        · intro w hSw; (try dsimp only at hSw); go_simp; try with_reducible rfl
        try simp only [Act.put, List.setIfInBounds_toArray, List.set_cons_zero, List.set_cons_succ]
        refine wpAnyH_take (i := 2) (oi := ⟨some 84, _, _, _, _, _⟩) (v := ?_) rfl (by kernel_rfl) (by kernel_rfl) (by kernel_rfl) (fun _ _ _ h => h) (Or.inl ⟨by rfl, ?_⟩) hHeld ?_
        rotate_left
        · intro w hSw; (try dsimp only at hSw); go_simp; try with_reducible rfl
        try simp only [Act.put, List.setIfInBounds_toArray, List.set_cons_zero, List.set_cons_succ]
        refine wpAnyH_take (i := 3) (oi := ⟨some 85, _, _, _, _, _⟩) (v := ?_) rfl (by kernel_rfl) (by kernel_rfl) (by kernel_rfl) (fun _ _ _ h => h) (Or.inl ⟨by rfl, ?_⟩) hHeld ?_
        rotate_left
        · intro w hSw; (try dsimp only at hSw); go_simp; try with_reducible rfl
        try simp only [Act.put, List.setIfInBounds_toArray, List.set_cons_zero, List.set_cons_succ]
        refine wpAnyH_take (i := 6) (oi := ⟨some 88, _, _, _, _, _⟩) (v := ?_) rfl (by kernel_rfl) (by kernel_rfl) (by kernel_rfl) (fun _ _ _ h => h) (Or.inl ⟨by rfl, ?_⟩) hHeld ?_
        rotate_left
        · intro w hSw; (try dsimp only at hSw); go_simp; try with_reducible rfl
        try simp only [Act.put, List.setIfInBounds_toArray, List.set_cons_zero, List.set_cons_succ]
        refine wpAnyH_take (i := 7) (oi := ⟨some 89, _, _, _, _, _⟩) (v := ?_) rfl (by kernel_rfl) (by kernel_rfl) (by kernel_rfl) (fun _ _ _ h => h) (Or.inl ⟨by rfl, ?_⟩) hHeld ?_
        rotate_left
        · intro w hSw; (try dsimp only at hSw); go_simp; try with_reducible rfl
        try simp only [Act.put, List.setIfInBounds_toArray, List.set_cons_zero, List.set_cons_succ]
        refine wpAnyH_take (i := 8) (oi := ⟨some 90, _, _, _, _, _⟩) (v := ?_) rfl (by kernel_rfl) (by kernel_rfl) (by kernel_rfl) (fun _ _ _ h => h) (Or.inl ⟨by rfl, ?_⟩) hHeld ?_
        rotate_left
        · intro w hSw; (try dsimp only at hSw); go_simp; try with_reducible rfl
        try simp only [Act.put, List.setIfInBounds_toArray, List.set_cons_zero, List.set_cons_succ]
        refine wpAnyH_take (i := 9) (oi := ⟨some 91, _, _, _, _, _⟩) (v := ?_) rfl (by kernel_rfl) (by kernel_rfl) (by kernel_rfl) (fun _ _ _ h => h) (Or.inl ⟨by rfl, ?_⟩) hHeld ?_
        rotate_left
        · intro w hSw; (try dsimp only at hSw); go_simp; try with_reducible rfl
        try simp only [Act.put, List.setIfInBounds_toArray, List.set_cons_zero, List.set_cons_succ]
        refine wpAnyH_ready (rs := [4]) (by kernel_rfl) (by simp) (AllReadyH.cons (o := ⟨some 86, _, _, _, _, _⟩) rfl (fun K hK => ?_) AllReadyH.nil)
        go_simp
        refine Calls.mono (lw_transcript (H4.out.below hHeld.1) HDL.out) ?_; rintro e y1 ⟨v1, rfl, ht1, _, hb1⟩; generalize S.s.o false = o1; have hfd1 := field63 v1 o1
        refine hK.out _ _ (HS.out _ (hHeld.1.trans (hb1.mono hHeld.1.size))) (fun hHeld => ?_)
        clear hK K
        try simp only [Act.put, List.setIfInBounds_toArray, List.set_cons_zero, List.set_cons_succ]
        refine wpAnyH_take (i := 5) (oi := ⟨some 87, _, _, _, _, _⟩) (v := ?_) rfl (by kernel_rfl) (by kernel_rfl) (by kernel_rfl) (fun _ _ _ h => h) (Or.inl ⟨by rfl, ?_⟩) hHeld ?_
        rotate_left
        · intro w hSw; (try dsimp only at hSw); go_simp; try with_reducible rfl
        try simp only [Act.put, List.setIfInBounds_toArray, List.set_cons_zero, List.set_cons_succ]
        refine wpAnyH_ready (rs := [10]) (by kernel_rfl) (by simp) (AllReadyH.cons (o := ⟨some 92, _, _, _, _, _⟩) rfl (fun K hK => ?_) AllReadyH.nil)
        go_simp
        refine Calls.mono (lw_transcript (H5.out.below hHeld.1) HDL.out) ?_; rintro e y2 ⟨v2, rfl, ht2, _, hb2⟩; generalize S.s.o false = o2; have hfd2 := field63 v2 o2
        refine hK.out _ _ (HS.out _ (hHeld.1.trans (hb2.mono hHeld.1.size))) (fun hHeld => ?_)
        clear hK K
        try simp only [Act.put, List.setIfInBounds_toArray, List.set_cons_zero, List.set_cons_succ]
        refine wpAnyH_take (i := 11) (oi := ⟨some 93, _, _, _, _, _⟩) (v := ?_) rfl (by kernel_rfl) (by kernel_rfl) (by kernel_rfl) (fun _ _ _ h => h) (Or.inl ⟨by rfl, ?_⟩) hHeld ?_
        rotate_left
        · intro w hSw; (try dsimp only at hSw); go_simp; try with_reducible rfl
        try simp only [Act.put, List.setIfInBounds_toArray, List.set_cons_zero, List.set_cons_succ]
        refine wpAnyH_ready (rs := [12]) (by kernel_rfl) (by simp) (AllReadyH.cons (o := ⟨some 94, _, _, _, _, _⟩) rfl (fun K hK => ?_) AllReadyH.nil)
        go_simp
        refine Calls.mono (ref_same (ht1.shown.below hb2) ht2.shown HINV.out.len) ?_; rintro e y3 ⟨rfl, m3, rfl⟩; have hb3 : Below y2.heap.size y2 (y2.drewN m3) := below_drewN (Below.refl _ _) _
        refine hK.out _ _ (HS.out _ (hHeld.1.trans (hb3.mono hHeld.1.size))) (fun hHeld => ?_)
        clear hK K
        try simp only [Act.put, List.setIfInBounds_toArray, List.set_cons_zero, List.set_cons_succ]
        refine wpAnyH_take (i := 13) (oi := ⟨some 95, _, _, _, _, _⟩) (v := ?_) rfl (by kernel_rfl) (by kernel_rfl) (by kernel_rfl) (fun _ _ _ h => h) (Or.inl ⟨by rfl, ?_⟩) hHeld ?_
        rotate_left
        · intro w hSw; (try dsimp only at hSw); go_simp; try with_reducible rfl
        try simp only [Act.put, List.setIfInBounds_toArray, List.set_cons_zero, List.set_cons_succ]
        refine wpAnyH_take (i := 14) (oi := ⟨some 96, _, _, _, _, _⟩) (v := ?_) rfl (by kernel_rfl) (by kernel_rfl) (by kernel_rfl) (fun _ _ _ h => h) (Or.inl ⟨by rfl, ?_⟩) hHeld ?_
        rotate_left
        · intro w hSw; (try dsimp only at hSw); go_simp; try with_reducible rfl
        try simp only [Act.put, List.setIfInBounds_toArray, List.set_cons_zero, List.set_cons_succ]
        refine wpAnyH_take (i := 15) (oi := ⟨some 97, _, _, _, _, _⟩) (v := ?_) rfl (by kernel_rfl) (by kernel_rfl) (by kernel_rfl) (fun _ _ _ h => h) (Or.inl ⟨by rfl, ?_⟩) hHeld ?_
        rotate_left
        · intro w hSw; (try dsimp only at hSw); go_simp; try with_reducible rfl
        try simp only [Act.put, List.setIfInBounds_toArray, List.set_cons_zero, List.set_cons_succ]
        refine wpAnyH_take (i := 16) (oi := ⟨some 98, _, _, _, _, _⟩) (v := ?_) rfl (by kernel_rfl) (by kernel_rfl) (by kernel_rfl) (fun _ _ _ h => h) (Or.inl ⟨by rfl, ?_⟩) hHeld ?_
        rotate_left
        · intro w hSw; (try dsimp only at hSw); go_simp; try with_reducible rfl
        try simp only [Act.put, List.setIfInBounds_toArray, List.set_cons_zero, List.set_cons_succ]
        refine wpAnyH_take (i := 17) (oi := ⟨some 99, _, _, _, _, _⟩) (v := ?_) rfl (by kernel_rfl) (by kernel_rfl) (by kernel_rfl) (fun _ _ _ h => h) (Or.inl ⟨by rfl, ?_⟩) hHeld ?_
        rotate_left
        · intro w hSw; (try dsimp only at hSw); go_simp; try with_reducible rfl
        try simp only [Act.put, List.setIfInBounds_toArray, List.set_cons_zero, List.set_cons_succ]
        refine wpAnyH_take (i := 18) (oi := ⟨some 100, _, _, _, _, _⟩) (v := ?_) rfl (by kernel_rfl) (by kernel_rfl) (by kernel_rfl) (fun _ _ _ h => h) (Or.inl ⟨by rfl, ?_⟩) hHeld ?_
        rotate_left
        · intro w hSw; (try dsimp only at hSw); go_simp; try with_reducible rfl
        try simp only [Act.put, List.setIfInBounds_toArray, List.set_cons_zero, List.set_cons_succ]
        refine wpAnyH_take (i := 19) (oi := ⟨some 101, _, _, _, _, _⟩) (v := ?_) rfl (by kernel_rfl) (by kernel_rfl) (by kernel_rfl) (fun _ _ _ h => h) (Or.inl ⟨by rfl, ?_⟩) hHeld ?_
        rotate_left
        · intro w hSw; (try dsimp only at hSw); go_simp; try with_reducible rfl
        try simp only [Act.put, List.setIfInBounds_toArray, List.set_cons_zero, List.set_cons_succ]
        refine wpAnyH_take (i := 20) (oi := ⟨some 102, _, _, _, _, _⟩) (v := ?_) rfl (by kernel_rfl) (by kernel_rfl) (by kernel_rfl) (fun _ _ _ h => h) (Or.inl ⟨by rfl, ?_⟩) hHeld ?_
        rotate_left
        · intro w hSw; (try dsimp only at hSw); go_simp; try with_reducible rfl
        try simp only [Act.put, List.setIfInBounds_toArray, List.set_cons_zero, List.set_cons_succ]
        refine wpAnyH_take (i := 21) (oi := ⟨some 103, _, _, _, _, _⟩) (v := ?_) rfl (by kernel_rfl) (by kernel_rfl) (by kernel_rfl) (fun _ _ _ h => h) (Or.inl ⟨by rfl, ?_⟩) hHeld ?_
        rotate_left
        · intro w hSw; (try dsimp only at hSw); go_simp; try with_reducible rfl
        try simp only [Act.put, List.setIfInBounds_toArray, List.set_cons_zero, List.set_cons_succ]
        refine wpAnyH_take (i := 22) (oi := ⟨some 104, _, _, _, _, _⟩) (v := .bool true) rfl (by kernel_rfl) (by kernel_rfl) (by kernel_rfl) (fun _ _ _ h => h) (Or.inl ⟨by rfl, ?_⟩) hHeld ?_
        · intro w hSw; (try dsimp only at hSw); go_simp; try with_reducible rfl
        try simp only [Act.put, List.setIfInBounds_toArray, List.set_cons_zero, List.set_cons_succ]
        refine wpAnyH_take (i := 23) (oi := ⟨some 105, _, _, _, _, _⟩) (v := ?_) rfl (by kernel_rfl) (by kernel_rfl) (by kernel_rfl) (fun _ _ _ h => h) (Or.inl ⟨by rfl, ?_⟩) hHeld ?_
        rotate_left
        · intro w hSw; (try dsimp only at hSw); go_simp; try with_reducible rfl
        try simp only [Act.put, List.setIfInBounds_toArray, List.set_cons_zero, List.set_cons_succ]
        refine wpAnyH_take (i := 24) (oi := ⟨some 4, _, _, _, _, _⟩) (v := ?_) rfl (by kernel_rfl) (by kernel_rfl) (by kernel_rfl) (fun _ _ _ h => h) (Or.inl ⟨by rfl, ?_⟩) hHeld ?_
        rotate_left
        · intro w hSw; (try dsimp only at hSw); go_simp; try with_reducible rfl
        try simp only [Act.put, List.setIfInBounds_toArray, List.set_cons_zero, List.set_cons_succ]
        refine wpAnyH_done (by kernel_rfl) ?_ _
        refine NoPanic.normal ?_
        go_wp2_with fail
        go_ret
        exact ⟨rfl, HB.out.trans (hHeld.1.mono hsz)⟩

end Go.Proofs.YthpdphbppapkhaaDoor.relayOwn
