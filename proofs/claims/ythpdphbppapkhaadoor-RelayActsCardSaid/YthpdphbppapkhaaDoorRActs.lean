/-
  The walk of RelayActs. Condition: the table 'other' reads as the program's text lays it.
-/
import Derived.Test.YthpdphbppapkhaaDoorSmall7
import Derived.Test.YthpdphbppapkhaaDoorReg37
import Derived.BigQuiet
import Derived.Deep.RegionHeld3
namespace Go.Proofs.YthpdphbppapkhaaDoor.relayActs
open Go.RowKit qb
set_option linter.unusedVariables false

set_option maxRecDepth 100000 in
set_option maxHeartbeats 60000000 in
theorem walk (a0 : Int) (a1 : Option Addr) (len1 cap1 : Nat) (acts : List Act) (w : World) (h0 : I64 a0) (h1 : IsActs w a1 len1 cap1 acts) (ho : Oth w) :
    Calls Tryd.prog 13 #[.int .i64 a0, .slice a1 len1 cap1] w fun e w' => e = .returned (.bool true) ∧ Below w.heap.size w w' := by
  have HO := Lib.hid ho
  have HG := Lib.hid h1
  have H0 := Lib.hid h0
  clear ho h1 h0
  by_cases hg : isGreat 150 acts = true
  · go_enter Tryd.func13, Tryd.ntmps13
    go_wp2_with fail
    refine (alive7_any w HO.out).mono ?_
    rintro e w1 ⟨rfl, hb1⟩
    go_wp2_with fail
    refine (great7_any a1 len1 cap1 acts w1 (IsActs.below HG.out hb1)).mono ?_
    rintro e w2 ⟨rfl, hb2⟩
    rw [hg]
    go_wp2_with fail
    refine (alive7_any w2 ((HO.out.below hb1 (Nat.le_refl _)).below hb2 (Nat.le_refl _))).mono ?_
    rintro e w3 ⟨rfl, hb3⟩
    go_wp2_with fail
    go_ret
    exact ⟨rfl, (hb1.trans (hb2.mono hb1.size)).trans (hb3.mono (Nat.le_trans hb1.size hb2.size))⟩
  · obtain ⟨B, hB⟩ : ∃ B, w.heap.size = B := ⟨_, rfl⟩
    go_enter Tryd.func13, Tryd.ntmps13
    go_wp2_with fail
    refine (alive7_any w HO.out).mono ?_
    rintro e w1 ⟨rfl, hb1⟩
    go_wp2_with fail
    refine (great7_any a1 len1 cap1 acts w1 (IsActs.below HG.out hb1)).mono ?_
    rintro e w2 ⟨rfl, hb2⟩
    have hlen : len1 ≤ 150 := by
      have h3 := HG.out.2.2.1
      have := hg
      unfold isGreat at this
      simp at this
      omega
    have hll : ∀ act, act ∈ acts → act.l.length ≤ 100 := by
      intro act hm
      have := hg
      unfold isGreat at this
      simp at this
      exact this.2 act hm
    have HLL : Hid _ := hll
    rw [Bool.not_eq_true] at hg
    rw [hg]
    have ho2 : Oth w2 := (HO.out.below hb1 (Nat.le_refl _)).below hb2 (Nat.le_refl _)
    have hb12 : Below w.heap.size w w2 := hb1.trans (hb2.mono hb1.size)
    have HO2 := Lib.hid ho2
    have HB2 := Lib.hid hb12
    have HA : Hid (∀ i, i < len1 → ∃ b off act, a1 = some ⟨b, off, none⟩ ∧ b < w.heap.size ∧ acts[i]? = some act ∧ IsAct w b (off + i * 4) act) := HG.out.2.2.2
    have HACTS : Hid (∀ x, x ∈ acts → ∀ z, z ∈ x.l → U8 z) := acts_u8 HG.out
    have hcap : len1 ≤ cap1 := HG.out.1
    have hcm := HG.out.2.1
    have HAL := Lib.hid HG.out.2.2.1
    unfold maxLen at hcm
    clear hg hll ho2 hb12 hb1 hb2 HG
    go_wp2_with fail
    refine (lw_new a0 H0.out w2 HO2.out).mono ?_
    rintro e w3 ⟨Wd, R, ln, N, H, rfl, hN, h3, hb3, hH3⟩
    have HN := Lib.hid hN
    have H3 := Lib.hid h3
    have HB3 := Lib.hid hb3
    have HH3 : Hid _ := hH3
    clear hN h3 hb3 hH3
    go_upto_region 6 with fail
    go_cut [6] (fun v6 w' => v6 = .int .i64 N ∧ w3 = w')
    case first =>
      have hN := HN.out
      go_wp2_with fail
      all_goals (go_meet; exact ⟨congrArg (Value.int .i64) (by omega), rfl⟩)
    case rest =>
    obtain ⟨rfl, rfl⟩ := hcut
    have hN1 : 1 ≤ N := by have := HN.out; omega
    have hN2 : N ≤ 30 := by have := HN.out; omega
    go_wp2_with fail
    refine (ref_new N (by omega) (by omega) w3).mono ?_
    rintro e w4 ⟨mu, Gu, rfl, hu, hb4, hGu⟩
    rw [Int.toNat_natCast] at hu
    have HU := Lib.hid hu
    have HB4 := Lib.hid hb4
    have HGU : Hid _ := hGu
    clear hu hb4 hGu
    go_wp2_with fail
    refine (ref_new N (by omega) (by omega) w4).mono ?_
    rintro e w5 ⟨mc, Gc, rfl, hc, hb5, hGc⟩
    rw [Int.toNat_natCast] at hc
    obtain ⟨r, hr⟩ : ∃ r, w5.heap.size = r := ⟨_, rfl⟩
    obtain ⟨m, hm⟩ : ∃ m : Bool → Nat, (fun d => if d then mu else mc) = m := ⟨_, rfl⟩
    have hmu : m true = mu := by rw [← hm]; rfl
    have hmc : m false = mc := by rw [← hm]; rfl
    obtain ⟨w6, hw6⟩ : ∃ w6, w5.alloc (.cells #[.pointer (some ⟨mu, 0, none⟩), .pointer (some ⟨mc, 0, none⟩), .slice none 0 0, .bool false, .bool false, .slice none 0 0, .slice none 0 0, .slice none 0 0] 83) = w6 := ⟨_, rfl⟩
    have hrun : Pair w w6 Wd R ln r m N (runS N ls0 (acts.take 0)) (runS N ls0 (acts.take 0)).s 0 := by
      have s2 := HB2.out.size
      have s3 := HB3.out.size
      have s4 := HB4.out.size
      have s5 := hb5.size
      have hb6 : Below w5.heap.size w5 w6 := by rw [← hw6]; exact (Below.refl _ _).alloc (Nat.le_refl _) _
      have hb36 : Below w3.heap.size w3 w6 := (HB4.out.trans (hb5.mono s4)).trans (hb6.mono (by omega))
      have hRR : RR w6 r m N (rs0 (fun _ => line0)) [] (fun d => if d then Gu else Gc) (fun _ => .slice none 0 0) (.slice none 0 0) (.slice none 0 0) [] [] (fun k => if k = r then 3 else if k ∈ Gu then 1 else 2) := {
        hl := fun d => by
          cases d
          · rw [hmc]; exact hc.below hb6 (Nat.le_refl _)
          · rw [hmu]; exact (HU.out.below hb5 (Nat.le_refl _)).below hb6 (Nat.le_refl _)
        hR := by
          have h := heap_alloc_new w5 (.cells #[.pointer (some ⟨mu, 0, none⟩), .pointer (some ⟨mc, 0, none⟩), .slice none 0 0, .bool false, .bool false, .slice none 0 0, .slice none 0 0, .slice none 0 0] 83)
          rw [hw6, hr] at h
          rw [h]
          unfold rrCells
          rw [hmu, hmc]
          rfl
        hw := fun d => Slc.nil _ _
        rowT := World.ownsRow_nil _ _ _ _
        row := World.ownsRow_nil _ _ _ _
        evq := rfl
        evd := fun x hx => by cases hx
        cF := fun d k hk => by
          cases d
          · have h1 := hc.lt k hk
            have h2 := hGc k hk
            simp only [if_neg (show ¬ k = r by omega), if_neg (fun hm => by have := HU.out.lt k hm; omega)]
            rfl
          · have h1 := HU.out.lt k hk
            simp only [if_neg (show ¬ k = r by omega), if_pos (show k ∈ Gu from hk)]
            rfl
        cR := by simp
        cT := fun k hk => by cases hk
        cE := fun k hk => by cases hk
        cQ := fun k hk => by cases hk
        qlt := fun k hk => by cases hk }
      have hRL : ∀ k, k ∈ RH (fun d => if d then Gu else Gc) r (.slice none 0 0) (.slice none 0 0) [] → w3.heap.size ≤ k := by
        intro k hk
        rcases mem_RH.1 hk with ⟨d, hd⟩ | hk | hk | hk | hk
        · cases d
          · have := hGc k hd; omega
          · exact HGU.out k hd
        · omega
        · cases hk
        · cases hk
        · cases hk
      refine ⟨H, _, H3.out.below hb36, ⟨[], _, _, _, _, [], [], _, rfl, hRR, ⟨fun _ => rfl, fun h => (by cases h), rfl⟩⟩, fun k hk hm => ?_, (HB2.out.trans (HB3.out.mono s2)).trans (hb36.mono (by omega)), fun k hk => ?_, fun k hk => ?_, ?_, fun hm => ?_, fun hm => ?_⟩
      · have := H3.out.lt k hk; have := hRL k hm; omega
      · have := HH3.out k hk; omega
      · have := hRL k hk; omega
      · have := hb36.size; omega
      · have := HH3.out 0 hm; have := HO.out.pos; omega
      · have := hRL 0 hm; have := HO.out.pos; omega
    have H00 := Lib.hid HO.out.pos
    have HU8 : Hid (∀ x, x ∈ acts → ∀ z, z ∈ x.l → U8 z) := HACTS.out
    clear hc hb5 hGc hm HU HB4 HGU H3 HB3 HH3 HN
    go_wp2_with fail
    go_loopg [35] len1 (fun g v35 wr => ∃ i C : Nat, i + g = len1 ∧ v35 = .int .i64 i ∧ Pair w wr Wd R ln r m N (runS N ls0 (acts.take i)) (runS N ls0 (acts.take i)).s C)
    case atStart => exact ⟨0, 0, by omega, rfl, hrun⟩
    case round =>
      clear hrun
      obtain ⟨i, C0, hi, rfl, hrun⟩ := hrel
      by_cases hlt : i < len1
      · have hbel := hrun.bel
        obtain ⟨ab, ao, ⟨kd, p1, p2, ll⟩, rfl, hab, hact, la, la_n, lc, c0, c1, c2, c3, hl, _⟩ := HA.out i hlt
        have d0 := (hbel.cell (p := ⟨ab, ao + i * 4, none⟩) hab).trans c0
        have d1 := (hbel.cell (p := ⟨ab, ao + i * 4 + 1, none⟩) hab).trans c1
        have d2 := (hbel.cell (p := ⟨ab, ao + i * 4 + 2, none⟩) hab).trans c2
        have d3 := (hbel.cell (p := ⟨ab, ao + i * 4 + 3, none⟩) hab).trans c3
        have HL := Lib.hid hl
        have HACT := Lib.hid hact
        obtain ⟨C, hC⟩ : ∃ C, wr.heap.size = C := ⟨_, rfl⟩
        obtain ⟨W1, hW1⟩ : ∃ W1, wr.alloc (.cells #[.int .i64 kd, .int .i64 p1, .int .i64 p2, .slice la la_n lc] 59) = W1 := ⟨_, rfl⟩
        have hb1 : Below wr.heap.size wr W1 := by rw [← hW1]; exact (Below.refl _ _).alloc (Nat.le_refl _) _
        have hbox : W1.heap[C]? = some (.cells #[.int .i64 kd, .int .i64 p1, .int .i64 p2, .slice la la_n lc] 59 (0, 0)) := by rw [← hW1, ← hC]; exact heap_alloc_new wr _
        have g0 : W1.cell? ⟨C, 0, none⟩ = some (.int .i64 kd) := cell_at hbox 0
        have g1 : W1.cell? ⟨C, 1, none⟩ = some (.int .i64 p1) := cell_at hbox 1
        have g2 : W1.cell? ⟨C, 2, none⟩ = some (.int .i64 p2) := cell_at hbox 2
        have g3 : W1.cell? ⟨C, 3, none⟩ = some (.slice la la_n lc) := cell_at hbox 3
        have HPR := Lib.hid (hrun.on hb1)
        rw [hC] at HPR
        have HBX := Lib.hid hbox
        have hCl : C < W1.heap.size := (Array.getElem?_eq_some_iff.1 hbox).1
        have HLS : Hid (∀ d, ((runS N ls0 (acts.take i)).wr d).length ≤ 15000 ∧ ((runS N ls0 (acts.take i)).rd d).length ≤ 15000) := Run.lens (by rw [HAL.out]; exact hlen) HLL.out
        have HXL := Lib.hid (HLL.out _ (List.mem_of_getElem? hact))
        have hlan : la_n ≤ 100 := by have h1 : ll.length = la_n := hl.2.2.1; have h2 : ll.length ≤ 100 := HXL.out; omega
        have HSM : Hid (SmallN N (runS N ls0 (acts.take i)).s) := small_run (small_new N) _ (fun a ha => HU8.out a (List.mem_of_mem_take ha))
        have HNO : Hid (Notes (runS N ls0 (acts.take i)).s) := (Run.inv (N := N) (acts := acts) (i := i)).toNotes
        obtain ⟨S, hS⟩ : ∃ S, runS N ls0 (acts.take i) = S := ⟨_, rfl⟩
        have hS1 : runS N ls0 (acts.take (i + 1)) = (doS N S ⟨kd, p1, p2, ll⟩).1 := by
          rw [List.take_add_one, hact]
          show runS N ls0 (acts.take i ++ [⟨kd, p1, p2, ll⟩]) = _
          rw [runS_app, hS]
        rw [hS] at HPR HLS HSM HNO
        have HS1 := Lib.hid hS1
        obtain ⟨pu, hpu⟩ : ∃ p, m true = p := ⟨_, rfl⟩
        obtain ⟨pc, hpc⟩ : ∃ p, m false = p := ⟨_, rfl⟩
        have HPU := Lib.hid hpu
        have HPC := Lib.hid hpc
        have HBW : Hid (Below w.heap.size w W1) := HPR.out.bel
        have hrc := HPR.out.rcells HNO.out.len
        have rc0 : W1.cell? ⟨r, 0, none⟩ = some (.pointer (some ⟨pu, 0, none⟩)) := by rw [← hpu]; exact hrc.1
        have rc1 : W1.cell? ⟨r, 1, none⟩ = some (.pointer (some ⟨pc, 0, none⟩)) := by rw [← hpc]; exact hrc.2.1
        have HLB : Hid (IsBytes W1 la la_n lc ll) := IsBytes.below HL.out HBW.out
        clear c0 c1 c2 c3 hl hact hbel hrun hb1 hbox hS hS1 hrc hpu hpc
        go_upto_block 2 with fail
        clear d0 d1 d2 d3
        go_cut [] (fun w' => Pair w w' Wd R ln r m N S (midS N S ⟨kd, p1, p2, ll⟩) C ∧ w'.heap[C]? = some (.cells #[.int .i64 kd, .int .i64 p1, .int .i64 p2, .slice la la_n lc] 59 (0, 0)) ∧ C < w'.heap.size)
        case first => as_aux_lemma =>
          by_cases k4 : kd = 4
          · subst k4
            go_upto_region 13 with fail
            refine wp_region_noPanic ?_
            refine wp_region_held_drew (S := fun W => W.cell? ⟨r, 0, none⟩ = some (.pointer (some ⟨pu, 0, none⟩)) ∧ W.cell? ⟨C, 3, none⟩ = some (.slice la la_n lc)) (by kernel_rfl) (⟨rc0, g3⟩) (fun hHeld => ?_)
            refine wpAnyH_take (i := 0) (oi := ⟨some 43, _, _, _, _, _⟩) (v := ?_) rfl (by kernel_rfl) (by kernel_rfl) (by kernel_rfl) (fun _ _ _ h => h) (Or.inl ⟨by rfl, ?_⟩) hHeld ?_
            rotate_left
            · intro w hSw; (try dsimp only at hSw); go_simp; try with_reducible rfl
            try simp only [Act.put, List.setIfInBounds_toArray, List.set_cons_zero, List.set_cons_succ]
            refine wpAnyH_take (i := 1) (oi := ⟨some 44, _, _, _, _, _⟩) (v := ?_) rfl (by kernel_rfl) (by kernel_rfl) (by kernel_rfl) (fun _ _ _ h => h) (Or.inl ⟨by rfl, ?_⟩) hHeld ?_
            rotate_left
            · intro w hSw; (try dsimp only at hSw); go_simp; try with_reducible rfl
            try simp only [Act.put, List.setIfInBounds_toArray, List.set_cons_zero, List.set_cons_succ]
            refine wpAnyH_take (i := 2) (oi := ⟨some 45, _, _, _, _, _⟩) (v := ?_) rfl (by kernel_rfl) (by kernel_rfl) (by kernel_rfl) (fun _ _ _ h => h) (Or.inl ⟨by rfl, ?_⟩) hHeld ?_
            rotate_left
            · intro w hSw; (try dsimp only at hSw); go_simp; try with_reducible rfl
            try simp only [Act.put, List.setIfInBounds_toArray, List.set_cons_zero, List.set_cons_succ]
            refine wpAnyH_take (i := 3) (oi := ⟨some 46, _, _, _, _, _⟩) (v := ?_) rfl (by kernel_rfl) (by kernel_rfl) (by kernel_rfl) (fun _ _ _ h => h) (Or.inl ⟨by rfl, ?_⟩) hHeld ?_
            rotate_left
            · intro w hSw; (try dsimp only at hSw); go_simp; try with_reducible rfl
            try simp only [Act.put, List.setIfInBounds_toArray, List.set_cons_zero, List.set_cons_succ]
            refine wpAnyH_take (i := 4) (oi := ⟨some 47, _, _, _, _, _⟩) (v := ?_) rfl (by kernel_rfl) (by kernel_rfl) (by kernel_rfl) (fun _ _ _ h => h) (Or.inl ⟨by rfl, ?_⟩) hHeld ?_
            rotate_left
            · intro w hSw; (try dsimp only at hSw); go_simp; try with_reducible rfl
            try simp only [Act.put, List.setIfInBounds_toArray, List.set_cons_zero, List.set_cons_succ]
            refine wpAnyH_take (i := 5) (oi := ⟨some 48, _, _, _, _, _⟩) (v := ?_) rfl (by kernel_rfl) (by kernel_rfl) (by kernel_rfl) (fun _ _ _ h => h) (Or.inl ⟨by rfl, ?_⟩) hHeld ?_
            rotate_left
            · intro w hSw; (try dsimp only at hSw); go_simp; try with_reducible rfl
            try simp only [Act.put, List.setIfInBounds_toArray, List.set_cons_zero, List.set_cons_succ]
            refine wpAnyH_ready (rs := [6]) (by kernel_rfl) (by simp) (AllReadyH.cons (o := ⟨some 49, _, _, _, _, _⟩) rfl (fun K hK => ?_) AllReadyH.nil)
            go_simp
            refine Calls.mono ((HPR.out.on' (below_drewN (Below.refl _ _) 1)).rwrite hCl H00.out true 0 rfl (IsBytes.below HLB.out (below_drewN (Below.refl _ _) 1)) hlan pu HPU.out 4 p1 p2 rfl) ?_; rintro e y1 ⟨⟨kk, rfl⟩, hy1, hyc, hyl⟩; have hyb := hyc.trans HBX.out; have hrc := Pair.rcells' hy1; have HY := Lib.hid hy1; have qr : y1.cell? ⟨r, 0, none⟩ = some (.pointer (some ⟨pu, 0, none⟩)) := (by rw [← HPU.out]; exact hrc.1); have qc : y1.cell? ⟨C, 3, none⟩ = some (.slice la la_n lc) := cell_at hyb 3; clear hy1 hyc hrc
            refine hK.out _ _ (⟨qr, qc⟩) (fun hHeld => ?_)
            clear hK K
            try simp only [Act.put, List.setIfInBounds_toArray, List.set_cons_zero, List.set_cons_succ]
            refine wpAnyH_done (by kernel_rfl) ?_ _
            refine NoPanic.normal ?_
            go_wp2_with fail
            go_meet
            exact ⟨HY.out, hyb, hyl⟩
          by_cases k5 : kd = 5
          · subst k5
            go_upto_region 15 with fail
            refine wp_region_noPanic ?_
            refine wp_region_held_drew (S := fun W => W.cell? ⟨r, 0, none⟩ = some (.pointer (some ⟨pu, 0, none⟩)) ∧ W.cell? ⟨C, 1, none⟩ = some (.int .i64 p1)) (by kernel_rfl) (⟨rc0, g1⟩) (fun hHeld => ?_)
            refine wpAnyH_take (i := 0) (oi := ⟨some 52, _, _, _, _, _⟩) (v := ?_) rfl (by kernel_rfl) (by kernel_rfl) (by kernel_rfl) (fun _ _ _ h => h) (Or.inl ⟨by rfl, ?_⟩) hHeld ?_
            rotate_left
            · intro w hSw; (try dsimp only at hSw); go_simp; try with_reducible rfl
            try simp only [Act.put, List.setIfInBounds_toArray, List.set_cons_zero, List.set_cons_succ]
            refine wpAnyH_take (i := 1) (oi := ⟨some 53, _, _, _, _, _⟩) (v := ?_) rfl (by kernel_rfl) (by kernel_rfl) (by kernel_rfl) (fun _ _ _ h => h) (Or.inl ⟨by rfl, ?_⟩) hHeld ?_
            rotate_left
            · intro w hSw; (try dsimp only at hSw); go_simp; try with_reducible rfl
            try simp only [Act.put, List.setIfInBounds_toArray, List.set_cons_zero, List.set_cons_succ]
            refine wpAnyH_take (i := 2) (oi := ⟨some 54, _, _, _, _, _⟩) (v := ?_) rfl (by kernel_rfl) (by kernel_rfl) (by kernel_rfl) (fun _ _ _ h => h) (Or.inl ⟨by rfl, ?_⟩) hHeld ?_
            rotate_left
            · intro w hSw; (try dsimp only at hSw); go_simp; try with_reducible rfl
            try simp only [Act.put, List.setIfInBounds_toArray, List.set_cons_zero, List.set_cons_succ]
            refine wpAnyH_take (i := 3) (oi := ⟨some 55, _, _, _, _, _⟩) (v := ?_) rfl (by kernel_rfl) (by kernel_rfl) (by kernel_rfl) (fun _ _ _ h => h) (Or.inl ⟨by rfl, ?_⟩) hHeld ?_
            rotate_left
            · intro w hSw; (try dsimp only at hSw); go_simp; try with_reducible rfl
            try simp only [Act.put, List.setIfInBounds_toArray, List.set_cons_zero, List.set_cons_succ]
            refine wpAnyH_take (i := 4) (oi := ⟨some 56, _, _, _, _, _⟩) (v := ?_) rfl (by kernel_rfl) (by kernel_rfl) (by kernel_rfl) (fun _ _ _ h => h) (Or.inl ⟨by rfl, ?_⟩) hHeld ?_
            rotate_left
            · intro w hSw; (try dsimp only at hSw); go_simp; try with_reducible rfl
            try simp only [Act.put, List.setIfInBounds_toArray, List.set_cons_zero, List.set_cons_succ]
            refine wpAnyH_take (i := 5) (oi := ⟨some 57, _, _, _, _, _⟩) (v := ?_) rfl (by kernel_rfl) (by kernel_rfl) (by kernel_rfl) (fun _ _ _ h => h) (Or.inl ⟨by rfl, ?_⟩) hHeld ?_
            rotate_left
            · intro w hSw; (try dsimp only at hSw); go_simp; try with_reducible rfl
            try simp only [Act.put, List.setIfInBounds_toArray, List.set_cons_zero, List.set_cons_succ]
            refine wpAnyH_ready (rs := [6]) (by kernel_rfl) (by simp) (AllReadyH.cons (o := ⟨some 58, _, _, _, _, _⟩) rfl (fun K hK => ?_) AllReadyH.nil)
            go_simp
            refine Calls.mono ((HPR.out.on' (below_drewN (Below.refl _ _) 1)).rread hCl H00.out (HSM.out.small hN2) true 0 rfl ll pu HPU.out 5 p1 p2 rfl) ?_; rintro e y1 ⟨⟨kp, kk, kc, rfl⟩, hy1, hyc, hyl⟩; have hyb := hyc.trans HBX.out; have hrc := Pair.rcells' hy1; have HY := Lib.hid hy1; have qr : y1.cell? ⟨r, 0, none⟩ = some (.pointer (some ⟨pu, 0, none⟩)) := (by rw [← HPU.out]; exact hrc.1); have qc : y1.cell? ⟨C, 1, none⟩ = some (.int .i64 p1) := cell_at hyb 1; clear hy1 hyc hrc
            refine hK.out _ _ (⟨qr, qc⟩) (fun hHeld => ?_)
            clear hK K
            try simp only [Act.put, List.setIfInBounds_toArray, List.set_cons_zero, List.set_cons_succ]
            refine wpAnyH_done (by kernel_rfl) ?_ _
            refine NoPanic.normal ?_
            go_wp2_with fail
            go_meet
            exact ⟨HY.out, hyb, hyl⟩
          by_cases k6 : kd = 6
          · subst k6
            obtain ⟨q, q0, qf, qc, hq1, hq2, hq3⟩ := HPR.out.rend hCl H00.out true ll pu HPU.out 6 p1 p2 rfl
            simp only [if_true] at q0
            generalize (S.s.l true).e true = oe at qc
            have HQ1 := Lib.hid hq1
            have HQ2 := Lib.hid (hq2.trans HBX.out)
            clear hq1 hq2
            go_wp2_with fail
            go_meet
            exact ⟨HQ1.out, HQ2.out, hq3⟩
          by_cases k7 : kd = 7
          · subst k7
            go_upto_region 19 with fail
            refine wp_region_noPanic ?_
            refine wp_region_held_drew (S := fun W => W.cell? ⟨r, 1, none⟩ = some (.pointer (some ⟨pc, 0, none⟩)) ∧ W.cell? ⟨C, 3, none⟩ = some (.slice la la_n lc)) (by kernel_rfl) (⟨rc1, g3⟩) (fun hHeld => ?_)
            refine wpAnyH_take (i := 0) (oi := ⟨some 73, _, _, _, _, _⟩) (v := ?_) rfl (by kernel_rfl) (by kernel_rfl) (by kernel_rfl) (fun _ _ _ h => h) (Or.inl ⟨by rfl, ?_⟩) hHeld ?_
            rotate_left
            · intro w hSw; (try dsimp only at hSw); go_simp; try with_reducible rfl
            try simp only [Act.put, List.setIfInBounds_toArray, List.set_cons_zero, List.set_cons_succ]
            refine wpAnyH_take (i := 1) (oi := ⟨some 74, _, _, _, _, _⟩) (v := ?_) rfl (by kernel_rfl) (by kernel_rfl) (by kernel_rfl) (fun _ _ _ h => h) (Or.inl ⟨by rfl, ?_⟩) hHeld ?_
            rotate_left
            · intro w hSw; (try dsimp only at hSw); go_simp; try with_reducible rfl
            try simp only [Act.put, List.setIfInBounds_toArray, List.set_cons_zero, List.set_cons_succ]
            refine wpAnyH_take (i := 2) (oi := ⟨some 75, _, _, _, _, _⟩) (v := ?_) rfl (by kernel_rfl) (by kernel_rfl) (by kernel_rfl) (fun _ _ _ h => h) (Or.inl ⟨by rfl, ?_⟩) hHeld ?_
            rotate_left
            · intro w hSw; (try dsimp only at hSw); go_simp; try with_reducible rfl
            try simp only [Act.put, List.setIfInBounds_toArray, List.set_cons_zero, List.set_cons_succ]
            refine wpAnyH_take (i := 3) (oi := ⟨some 76, _, _, _, _, _⟩) (v := ?_) rfl (by kernel_rfl) (by kernel_rfl) (by kernel_rfl) (fun _ _ _ h => h) (Or.inl ⟨by rfl, ?_⟩) hHeld ?_
            rotate_left
            · intro w hSw; (try dsimp only at hSw); go_simp; try with_reducible rfl
            try simp only [Act.put, List.setIfInBounds_toArray, List.set_cons_zero, List.set_cons_succ]
            refine wpAnyH_take (i := 4) (oi := ⟨some 77, _, _, _, _, _⟩) (v := ?_) rfl (by kernel_rfl) (by kernel_rfl) (by kernel_rfl) (fun _ _ _ h => h) (Or.inl ⟨by rfl, ?_⟩) hHeld ?_
            rotate_left
            · intro w hSw; (try dsimp only at hSw); go_simp; try with_reducible rfl
            try simp only [Act.put, List.setIfInBounds_toArray, List.set_cons_zero, List.set_cons_succ]
            refine wpAnyH_take (i := 5) (oi := ⟨some 78, _, _, _, _, _⟩) (v := ?_) rfl (by kernel_rfl) (by kernel_rfl) (by kernel_rfl) (fun _ _ _ h => h) (Or.inl ⟨by rfl, ?_⟩) hHeld ?_
            rotate_left
            · intro w hSw; (try dsimp only at hSw); go_simp; try with_reducible rfl
            try simp only [Act.put, List.setIfInBounds_toArray, List.set_cons_zero, List.set_cons_succ]
            refine wpAnyH_ready (rs := [6]) (by kernel_rfl) (by simp) (AllReadyH.cons (o := ⟨some 79, _, _, _, _, _⟩) rfl (fun K hK => ?_) AllReadyH.nil)
            go_simp
            refine Calls.mono ((HPR.out.on' (below_drewN (Below.refl _ _) 1)).rwrite hCl H00.out false 1 rfl (IsBytes.below HLB.out (below_drewN (Below.refl _ _) 1)) hlan pc HPC.out 7 p1 p2 rfl) ?_; rintro e y1 ⟨⟨kk, rfl⟩, hy1, hyc, hyl⟩; have hyb := hyc.trans HBX.out; have hrc := Pair.rcells' hy1; have HY := Lib.hid hy1; have qr : y1.cell? ⟨r, 1, none⟩ = some (.pointer (some ⟨pc, 0, none⟩)) := (by rw [← HPC.out]; exact hrc.2); have qc : y1.cell? ⟨C, 3, none⟩ = some (.slice la la_n lc) := cell_at hyb 3; clear hy1 hyc hrc
            refine hK.out _ _ (⟨qr, qc⟩) (fun hHeld => ?_)
            clear hK K
            try simp only [Act.put, List.setIfInBounds_toArray, List.set_cons_zero, List.set_cons_succ]
            refine wpAnyH_done (by kernel_rfl) ?_ _
            refine NoPanic.normal ?_
            go_wp2_with fail
            go_meet
            exact ⟨HY.out, hyb, hyl⟩
          by_cases k8 : kd = 8
          · subst k8
            go_upto_region 21 with fail
            refine wp_region_noPanic ?_
            refine wp_region_held_drew (S := fun W => W.cell? ⟨r, 1, none⟩ = some (.pointer (some ⟨pc, 0, none⟩)) ∧ W.cell? ⟨C, 1, none⟩ = some (.int .i64 p1)) (by kernel_rfl) (⟨rc1, g1⟩) (fun hHeld => ?_)
            refine wpAnyH_take (i := 0) (oi := ⟨some 82, _, _, _, _, _⟩) (v := ?_) rfl (by kernel_rfl) (by kernel_rfl) (by kernel_rfl) (fun _ _ _ h => h) (Or.inl ⟨by rfl, ?_⟩) hHeld ?_
            rotate_left
            · intro w hSw; (try dsimp only at hSw); go_simp; try with_reducible rfl
            try simp only [Act.put, List.setIfInBounds_toArray, List.set_cons_zero, List.set_cons_succ]
            refine wpAnyH_take (i := 1) (oi := ⟨some 83, _, _, _, _, _⟩) (v := ?_) rfl (by kernel_rfl) (by kernel_rfl) (by kernel_rfl) (fun _ _ _ h => h) (Or.inl ⟨by rfl, ?_⟩) hHeld ?_
            rotate_left
            · intro w hSw; (try dsimp only at hSw); go_simp; try with_reducible rfl
            try simp only [Act.put, List.setIfInBounds_toArray, List.set_cons_zero, List.set_cons_succ]
            refine wpAnyH_take (i := 2) (oi := ⟨some 84, _, _, _, _, _⟩) (v := ?_) rfl (by kernel_rfl) (by kernel_rfl) (by kernel_rfl) (fun _ _ _ h => h) (Or.inl ⟨by rfl, ?_⟩) hHeld ?_
            rotate_left
            · intro w hSw; (try dsimp only at hSw); go_simp; try with_reducible rfl
            try simp only [Act.put, List.setIfInBounds_toArray, List.set_cons_zero, List.set_cons_succ]
            refine wpAnyH_take (i := 3) (oi := ⟨some 85, _, _, _, _, _⟩) (v := ?_) rfl (by kernel_rfl) (by kernel_rfl) (by kernel_rfl) (fun _ _ _ h => h) (Or.inl ⟨by rfl, ?_⟩) hHeld ?_
            rotate_left
            · intro w hSw; (try dsimp only at hSw); go_simp; try with_reducible rfl
            try simp only [Act.put, List.setIfInBounds_toArray, List.set_cons_zero, List.set_cons_succ]
            refine wpAnyH_take (i := 4) (oi := ⟨some 86, _, _, _, _, _⟩) (v := ?_) rfl (by kernel_rfl) (by kernel_rfl) (by kernel_rfl) (fun _ _ _ h => h) (Or.inl ⟨by rfl, ?_⟩) hHeld ?_
            rotate_left
            · intro w hSw; (try dsimp only at hSw); go_simp; try with_reducible rfl
            try simp only [Act.put, List.setIfInBounds_toArray, List.set_cons_zero, List.set_cons_succ]
            refine wpAnyH_take (i := 5) (oi := ⟨some 87, _, _, _, _, _⟩) (v := ?_) rfl (by kernel_rfl) (by kernel_rfl) (by kernel_rfl) (fun _ _ _ h => h) (Or.inl ⟨by rfl, ?_⟩) hHeld ?_
            rotate_left
            · intro w hSw; (try dsimp only at hSw); go_simp; try with_reducible rfl
            try simp only [Act.put, List.setIfInBounds_toArray, List.set_cons_zero, List.set_cons_succ]
            refine wpAnyH_ready (rs := [6]) (by kernel_rfl) (by simp) (AllReadyH.cons (o := ⟨some 88, _, _, _, _, _⟩) rfl (fun K hK => ?_) AllReadyH.nil)
            go_simp
            refine Calls.mono ((HPR.out.on' (below_drewN (Below.refl _ _) 1)).rread hCl H00.out (HSM.out.small hN2) false 1 rfl ll pc HPC.out 8 p1 p2 rfl) ?_; rintro e y1 ⟨⟨kp, kk, kc, rfl⟩, hy1, hyc, hyl⟩; have hyb := hyc.trans HBX.out; have hrc := Pair.rcells' hy1; have HY := Lib.hid hy1; have qr : y1.cell? ⟨r, 1, none⟩ = some (.pointer (some ⟨pc, 0, none⟩)) := (by rw [← HPC.out]; exact hrc.2); have qc : y1.cell? ⟨C, 1, none⟩ = some (.int .i64 p1) := cell_at hyb 1; clear hy1 hyc hrc
            refine hK.out _ _ (⟨qr, qc⟩) (fun hHeld => ?_)
            clear hK K
            try simp only [Act.put, List.setIfInBounds_toArray, List.set_cons_zero, List.set_cons_succ]
            refine wpAnyH_done (by kernel_rfl) ?_ _
            refine NoPanic.normal ?_
            go_wp2_with fail
            go_meet
            exact ⟨HY.out, hyb, hyl⟩
          by_cases k9 : kd = 9
          · subst k9
            obtain ⟨q, q0, qf, qc, hq1, hq2, hq3⟩ := HPR.out.rend hCl H00.out false ll pc HPC.out 9 p1 p2 rfl
            simp only [Bool.false_eq_true, if_false] at q0
            generalize (S.s.l false).e false = oe at qc
            have HQ1 := Lib.hid hq1
            have HQ2 := Lib.hid (hq2.trans HBX.out)
            clear hq1 hq2
            go_wp2_with fail
            go_meet
            exact ⟨HQ1.out, HQ2.out, hq3⟩
          have hmid : midS N S ⟨kd, p1, p2, ll⟩ = S.s := midS_none N S _ (by dsimp only; omega)
          have HB := HBX.out
          have HMP : Hid (Pair w W1 Wd R ln r m N S (midS N S ⟨kd, p1, p2, ll⟩) C) := by show Pair _ _ _ _ _ _ _ _ _ _ _; rw [hmid]; exact HPR.out
          clear hmid
          go_wp2_with fail
          go_meet
          exact ⟨HMP.out, HB, hCl⟩
        case rest =>
        obtain ⟨hp2, hbox2, hCl2⟩ := hcut
        clear HPR HBX g0 g1 g2 g3 hCl rc0 rc1 HLB HPU HPC hW1
        have HP2 := Lib.hid hp2
        have HBX2 := Lib.hid hbox2
        have g0 : wc.cell? ⟨C, 0, none⟩ = some (.int .i64 kd) := cell_at hbox2 0
        have g1 : wc.cell? ⟨C, 1, none⟩ = some (.int .i64 p1) := cell_at hbox2 1
        have g2 : wc.cell? ⟨C, 2, none⟩ = some (.int .i64 p2) := cell_at hbox2 2
        have g3 : wc.cell? ⟨C, 3, none⟩ = some (.slice la la_n lc) := cell_at hbox2 3
        clear hp2 hbox2
        go_upto_region 24 with fail
        go_cut [117] (fun v117 w' => v117 = .bool false ∧ Pair w w' Wd R ln r m N (doS N S ⟨kd, p1, p2, ll⟩).1 (doS N S ⟨kd, p1, p2, ll⟩).1.s C)
        case first => as_aux_lemma =>
          by_cases k4 : kd < 4
          · obtain ⟨e1, e2, e3⟩ := midS_step N S ⟨kd, p1, p2, ll⟩ k4
            obtain ⟨b, hb⟩ : ∃ b, (doS N S ⟨kd, p1, p2, ll⟩).2 = b := ⟨_, rfl⟩
            rw [e1] at HP2
            rw [hb] at e3
            have HB := Lib.hid hb
            have HE2 := Lib.hid e2
            have HE3 := Lib.hid e3
            clear hb e1 e2 e3
            refine wp_region_noPanic ?_
            refine wp_region_held_drew (S := fun W => W.cell? ⟨C, 0, none⟩ = some (.int .i64 kd) ∧ W.cell? ⟨C, 1, none⟩ = some (.int .i64 p1) ∧ W.cell? ⟨C, 2, none⟩ = some (.int .i64 p2) ∧ W.cell? ⟨C, 3, none⟩ = some (.slice la la_n lc)) (by kernel_rfl) (⟨g0, g1, g2, g3⟩) (fun hHeld => ?_)
            refine wpAnyH_take (i := 0) (oi := ⟨some 101, _, _, _, _, _⟩) (v := ?_) rfl (by kernel_rfl) (by kernel_rfl) (by kernel_rfl) (fun _ _ _ h => h) (Or.inl ⟨by rfl, ?_⟩) hHeld ?_
            rotate_left
            · intro w hSw; (try dsimp only at hSw); go_simp; try with_reducible rfl
            try simp only [Act.put, List.setIfInBounds_toArray, List.set_cons_zero, List.set_cons_succ]
            refine wpAnyH_take (i := 1) (oi := ⟨some 102, _, _, _, _, _⟩) (v := ?_) rfl (by kernel_rfl) (by kernel_rfl) (by kernel_rfl) (fun _ _ _ h => h) (Or.inl ⟨by rfl, ?_⟩) hHeld ?_
            rotate_left
            · intro w hSw; (try dsimp only at hSw); go_simp; try with_reducible rfl
            try simp only [Act.put, List.setIfInBounds_toArray, List.set_cons_zero, List.set_cons_succ]
            refine wpAnyH_take (i := 3) (oi := ⟨some 104, _, _, _, _, _⟩) (v := ?_) rfl (by kernel_rfl) (by kernel_rfl) (by kernel_rfl) (fun _ _ _ h => h) (Or.inl ⟨by rfl, ?_⟩) hHeld ?_
            rotate_left
            · intro w hSw; (try dsimp only at hSw); go_simp; try with_reducible rfl
            try simp only [Act.put, List.setIfInBounds_toArray, List.set_cons_zero, List.set_cons_succ]
            refine wpAnyH_take (i := 4) (oi := ⟨some 105, _, _, _, _, _⟩) (v := ?_) rfl (by kernel_rfl) (by kernel_rfl) (by kernel_rfl) (fun _ _ _ h => h) (Or.inl ⟨by rfl, ?_⟩) hHeld ?_
            rotate_left
            · intro w hSw; (try dsimp only at hSw); go_simp; try with_reducible rfl
            try simp only [Act.put, List.setIfInBounds_toArray, List.set_cons_zero, List.set_cons_succ]
            refine wpAnyH_take (i := 5) (oi := ⟨some 106, _, _, _, _, _⟩) (v := ?_) rfl (by kernel_rfl) (by kernel_rfl) (by kernel_rfl) (fun _ _ _ h => h) (Or.inl ⟨by rfl, ?_⟩) hHeld ?_
            rotate_left
            · intro w hSw; (try dsimp only at hSw); go_simp; try with_reducible rfl
            try simp only [Act.put, List.setIfInBounds_toArray, List.set_cons_zero, List.set_cons_succ]
            refine wpAnyH_ready (rs := [2]) (by kernel_rfl) (by simp) (AllReadyH.cons (o := ⟨some 103, _, _, _, _, _⟩) rfl (fun K hK => ?_) AllReadyH.nil)
            go_simp
            refine Calls.mono ((HP2.out.on' (below_drewN (Below.refl _ _) 1)).did hCl2 ⟨kd, p1, p2, ll⟩ HXL.out HL.out (fun d => by have := (HLS.out d).1; omega) (fun d => by have := (HLS.out d).2; omega)) ?_; rw [HB.out]; rintro e y1 ⟨rfl, hy1, hyc1, hyl1⟩; have hbx1 := hyc1.trans HBX2.out; have HY1 := Lib.hid hy1; clear hy1 hyc1
            refine hK.out _ _ (⟨cell_at hbx1 0, cell_at hbx1 1, cell_at hbx1 2, cell_at hbx1 3⟩) (fun hHeld => ?_)
            clear hK K
            try simp only [Act.put, List.setIfInBounds_toArray, List.set_cons_zero, List.set_cons_succ]
            refine wpAnyH_take (i := 6) (oi := ⟨some 107, _, _, _, _, _⟩) (v := ?_) rfl (by kernel_rfl) (by kernel_rfl) (by kernel_rfl) (fun _ _ _ h => h) (Or.inl ⟨by rfl, ?_⟩) hHeld ?_
            rotate_left
            · intro w hSw; (try dsimp only at hSw); go_simp; try with_reducible rfl
            try simp only [Act.put, List.setIfInBounds_toArray, List.set_cons_zero, List.set_cons_succ]
            refine wpAnyH_take (i := 7) (oi := ⟨some 108, _, _, _, _, _⟩) (v := ?_) rfl (by kernel_rfl) (by kernel_rfl) (by kernel_rfl) (fun _ _ _ h => h) (Or.inl ⟨by rfl, ?_⟩) hHeld ?_
            rotate_left
            · intro w hSw; (try dsimp only at hSw); go_simp; try with_reducible rfl
            try simp only [Act.put, List.setIfInBounds_toArray, List.set_cons_zero, List.set_cons_succ]
            refine wpAnyH_take (i := 8) (oi := ⟨some 109, _, _, _, _, _⟩) (v := ?_) rfl (by kernel_rfl) (by kernel_rfl) (by kernel_rfl) (fun _ _ _ h => h) (Or.inl ⟨by rfl, ?_⟩) hHeld ?_
            rotate_left
            · intro w hSw; (try dsimp only at hSw); go_simp; try with_reducible rfl
            try simp only [Act.put, List.setIfInBounds_toArray, List.set_cons_zero, List.set_cons_succ]
            refine wpAnyH_take (i := 9) (oi := ⟨some 110, _, _, _, _, _⟩) (v := ?_) rfl (by kernel_rfl) (by kernel_rfl) (by kernel_rfl) (fun _ _ _ h => h) (Or.inl ⟨by rfl, ?_⟩) hHeld ?_
            rotate_left
            · intro w hSw; (try dsimp only at hSw); go_simp; try with_reducible rfl
            try simp only [Act.put, List.setIfInBounds_toArray, List.set_cons_zero, List.set_cons_succ]
            refine wpAnyH_take (i := 10) (oi := ⟨some 111, _, _, _, _, _⟩) (v := ?_) rfl (by kernel_rfl) (by kernel_rfl) (by kernel_rfl) (fun _ _ _ h => h) (Or.inl ⟨by rfl, ?_⟩) hHeld ?_
            rotate_left
            · intro w hSw; (try dsimp only at hSw); go_simp; try with_reducible rfl
            try simp only [Act.put, List.setIfInBounds_toArray, List.set_cons_zero, List.set_cons_succ]
            refine wpAnyH_take (i := 11) (oi := ⟨some 112, _, _, _, _, _⟩) (v := ?_) rfl (by kernel_rfl) (by kernel_rfl) (by kernel_rfl) (fun _ _ _ h => h) (Or.inl ⟨by rfl, ?_⟩) hHeld ?_
            rotate_left
            · intro w hSw; (try dsimp only at hSw); go_simp; try with_reducible rfl
            try simp only [Act.put, List.setIfInBounds_toArray, List.set_cons_zero, List.set_cons_succ]
            refine wpAnyH_take (i := 12) (oi := ⟨some 113, _, _, _, _, _⟩) (v := ?_) rfl (by kernel_rfl) (by kernel_rfl) (by kernel_rfl) (fun _ _ _ h => h) (Or.inl ⟨by rfl, ?_⟩) hHeld ?_
            rotate_left
            · intro w hSw; (try dsimp only at hSw); go_simp; try with_reducible rfl
            try simp only [Act.put, List.setIfInBounds_toArray, List.set_cons_zero, List.set_cons_succ]
            refine wpAnyH_take (i := 13) (oi := ⟨some 114, _, _, _, _, _⟩) (v := ?_) rfl (by kernel_rfl) (by kernel_rfl) (by kernel_rfl) (fun _ _ _ h => h) (Or.inl ⟨by rfl, ?_⟩) hHeld ?_
            rotate_left
            · intro w hSw; (try dsimp only at hSw); go_simp; try with_reducible rfl
            try simp only [Act.put, List.setIfInBounds_toArray, List.set_cons_zero, List.set_cons_succ]
            refine wpAnyH_ready (rs := [14]) (by kernel_rfl) (by simp) (AllReadyH.cons (o := ⟨some 115, _, _, _, _, _⟩) rfl (fun K hK => ?_) AllReadyH.nil)
            go_simp
            refine Calls.mono (HY1.out.step hyl1 H00.out HNO.out (HSM.out.small hN2) kd p1 p2) ?_; rw [← HE3.out]; rintro e y2 ⟨rfl, hy2, hyc2, hyl2⟩; have hbx2 := hyc2.trans hbx1; have HY2 := Lib.hid hy2; clear hy2 hyc2
            refine hK.out _ _ (⟨cell_at hbx2 0, cell_at hbx2 1, cell_at hbx2 2, cell_at hbx2 3⟩) (fun hHeld => ?_)
            clear hK K
            try simp only [Act.put, List.setIfInBounds_toArray, List.set_cons_zero, List.set_cons_succ]
            refine wpAnyH_take (i := 15) (oi := ⟨some 116, _, _, _, _, _⟩) (v := ?_) rfl (by kernel_rfl) (by kernel_rfl) (by kernel_rfl) (fun _ _ _ h => h) (Or.inl ⟨by rfl, ?_⟩) hHeld ?_
            rotate_left
            · intro w hSw; (try dsimp only at hSw); go_simp; try with_reducible rfl
            try simp only [Act.put, List.setIfInBounds_toArray, List.set_cons_zero, List.set_cons_succ]
            refine wpAnyH_take (i := 16) (oi := ⟨some 117, _, _, _, _, _⟩) (v := ?_) rfl (by kernel_rfl) (by kernel_rfl) (by kernel_rfl) (fun _ _ _ h => h) (Or.inl ⟨by rfl, ?_⟩) hHeld ?_
            rotate_left
            · intro w hSw; (try dsimp only at hSw); go_simp; try with_reducible rfl
            try simp only [Act.put, List.setIfInBounds_toArray, List.set_cons_zero, List.set_cons_succ]
            refine wpAnyH_done (by kernel_rfl) ?_ _
            refine NoPanic.normal ?_
            go_wp2_with fail
            go_meet
            exact ⟨by simp, by rw [HE2.out]; exact HY2.out⟩
          · obtain ⟨e1, e3⟩ := midS_other N S ⟨kd, p1, p2, ll⟩ k4
            rw [e1] at HP2
            have HB := Lib.hid e3
            clear e1 e3
            refine wp_region_noPanic ?_
            refine wp_region_held_drew (S := fun W => W.cell? ⟨C, 0, none⟩ = some (.int .i64 kd) ∧ W.cell? ⟨C, 1, none⟩ = some (.int .i64 p1) ∧ W.cell? ⟨C, 2, none⟩ = some (.int .i64 p2) ∧ W.cell? ⟨C, 3, none⟩ = some (.slice la la_n lc)) (by kernel_rfl) (⟨g0, g1, g2, g3⟩) (fun hHeld => ?_)
            refine wpAnyH_take (i := 0) (oi := ⟨some 101, _, _, _, _, _⟩) (v := ?_) rfl (by kernel_rfl) (by kernel_rfl) (by kernel_rfl) (fun _ _ _ h => h) (Or.inl ⟨by rfl, ?_⟩) hHeld ?_
            rotate_left
            · intro w hSw; (try dsimp only at hSw); go_simp; try with_reducible rfl
            try simp only [Act.put, List.setIfInBounds_toArray, List.set_cons_zero, List.set_cons_succ]
            refine wpAnyH_take (i := 1) (oi := ⟨some 102, _, _, _, _, _⟩) (v := ?_) rfl (by kernel_rfl) (by kernel_rfl) (by kernel_rfl) (fun _ _ _ h => h) (Or.inl ⟨by rfl, ?_⟩) hHeld ?_
            rotate_left
            · intro w hSw; (try dsimp only at hSw); go_simp; try with_reducible rfl
            try simp only [Act.put, List.setIfInBounds_toArray, List.set_cons_zero, List.set_cons_succ]
            refine wpAnyH_take (i := 3) (oi := ⟨some 104, _, _, _, _, _⟩) (v := ?_) rfl (by kernel_rfl) (by kernel_rfl) (by kernel_rfl) (fun _ _ _ h => h) (Or.inl ⟨by rfl, ?_⟩) hHeld ?_
            rotate_left
            · intro w hSw; (try dsimp only at hSw); go_simp; try with_reducible rfl
            try simp only [Act.put, List.setIfInBounds_toArray, List.set_cons_zero, List.set_cons_succ]
            refine wpAnyH_take (i := 4) (oi := ⟨some 105, _, _, _, _, _⟩) (v := ?_) rfl (by kernel_rfl) (by kernel_rfl) (by kernel_rfl) (fun _ _ _ h => h) (Or.inl ⟨by rfl, ?_⟩) hHeld ?_
            rotate_left
            · intro w hSw; (try dsimp only at hSw); go_simp; try with_reducible rfl
            try simp only [Act.put, List.setIfInBounds_toArray, List.set_cons_zero, List.set_cons_succ]
            refine wpAnyH_take (i := 5) (oi := ⟨some 106, _, _, _, _, _⟩) (v := ?_) rfl (by kernel_rfl) (by kernel_rfl) (by kernel_rfl) (fun _ _ _ h => h) (Or.inl ⟨by rfl, ?_⟩) hHeld ?_
            rotate_left
            · intro w hSw; (try dsimp only at hSw); go_simp; try with_reducible rfl
            try simp only [Act.put, List.setIfInBounds_toArray, List.set_cons_zero, List.set_cons_succ]
            refine wpAnyH_ready (rs := [2]) (by kernel_rfl) (by simp) (AllReadyH.cons (o := ⟨some 103, _, _, _, _, _⟩) rfl (fun K hK => ?_) AllReadyH.nil)
            go_simp
            refine Calls.mono ((HP2.out.on' (below_drewN (Below.refl _ _) 1)).did hCl2 ⟨kd, p1, p2, ll⟩ HXL.out HL.out (fun d => by have := (HLS.out d).1; omega) (fun d => by have := (HLS.out d).2; omega)) ?_; rw [HB.out]; rintro e y1 ⟨rfl, hy1, hyc1, hyl1⟩; have hbx1 := hyc1.trans HBX2.out; have HY1 := Lib.hid hy1; clear hy1 hyc1
            refine hK.out _ _ (⟨cell_at hbx1 0, cell_at hbx1 1, cell_at hbx1 2, cell_at hbx1 3⟩) (fun hHeld => ?_)
            clear hK K
            try simp only [Act.put, List.setIfInBounds_toArray, List.set_cons_zero, List.set_cons_succ]
            refine wpAnyH_take (i := 6) (oi := ⟨some 107, _, _, _, _, _⟩) (v := ?_) rfl (by kernel_rfl) (by kernel_rfl) (by kernel_rfl) (fun _ _ _ h => h) (Or.inl ⟨by rfl, ?_⟩) hHeld ?_
            rotate_left
            · intro w hSw; (try dsimp only at hSw); go_simp; try with_reducible rfl
            try simp only [Act.put, List.setIfInBounds_toArray, List.set_cons_zero, List.set_cons_succ]
            refine wpAnyH_take (i := 7) (oi := ⟨some 108, _, _, _, _, _⟩) (v := undef) rfl (by kernel_rfl) (by kernel_rfl) (by kernel_rfl) (fun _ _ _ h => h) (Or.inr ⟨by rfl, rfl⟩) hHeld ?_
            try simp only [Act.put, List.setIfInBounds_toArray, List.set_cons_zero, List.set_cons_succ]
            refine wpAnyH_take (i := 8) (oi := ⟨some 109, _, _, _, _, _⟩) (v := undef) rfl (by kernel_rfl) (by kernel_rfl) (by kernel_rfl) (fun _ _ _ h => h) (Or.inr ⟨by rfl, rfl⟩) hHeld ?_
            try simp only [Act.put, List.setIfInBounds_toArray, List.set_cons_zero, List.set_cons_succ]
            refine wpAnyH_take (i := 9) (oi := ⟨some 110, _, _, _, _, _⟩) (v := undef) rfl (by kernel_rfl) (by kernel_rfl) (by kernel_rfl) (fun _ _ _ h => h) (Or.inr ⟨by rfl, rfl⟩) hHeld ?_
            try simp only [Act.put, List.setIfInBounds_toArray, List.set_cons_zero, List.set_cons_succ]
            refine wpAnyH_take (i := 10) (oi := ⟨some 111, _, _, _, _, _⟩) (v := undef) rfl (by kernel_rfl) (by kernel_rfl) (by kernel_rfl) (fun _ _ _ h => h) (Or.inr ⟨by rfl, rfl⟩) hHeld ?_
            try simp only [Act.put, List.setIfInBounds_toArray, List.set_cons_zero, List.set_cons_succ]
            refine wpAnyH_take (i := 11) (oi := ⟨some 112, _, _, _, _, _⟩) (v := undef) rfl (by kernel_rfl) (by kernel_rfl) (by kernel_rfl) (fun _ _ _ h => h) (Or.inr ⟨by rfl, rfl⟩) hHeld ?_
            try simp only [Act.put, List.setIfInBounds_toArray, List.set_cons_zero, List.set_cons_succ]
            refine wpAnyH_take (i := 12) (oi := ⟨some 113, _, _, _, _, _⟩) (v := undef) rfl (by kernel_rfl) (by kernel_rfl) (by kernel_rfl) (fun _ _ _ h => h) (Or.inr ⟨by rfl, rfl⟩) hHeld ?_
            try simp only [Act.put, List.setIfInBounds_toArray, List.set_cons_zero, List.set_cons_succ]
            refine wpAnyH_take (i := 13) (oi := ⟨some 114, _, _, _, _, _⟩) (v := undef) rfl (by kernel_rfl) (by kernel_rfl) (by kernel_rfl) (fun _ _ _ h => h) (Or.inr ⟨by rfl, rfl⟩) hHeld ?_
            try simp only [Act.put, List.setIfInBounds_toArray, List.set_cons_zero, List.set_cons_succ]
            refine wpAnyH_take (i := 14) (oi := ⟨some 115, _, _, _, _, _⟩) (v := undef) rfl (by kernel_rfl) (by kernel_rfl) (by kernel_rfl) (fun _ _ _ h => h) (Or.inr ⟨by rfl, rfl⟩) hHeld ?_
            try simp only [Act.put, List.setIfInBounds_toArray, List.set_cons_zero, List.set_cons_succ]
            refine wpAnyH_take (i := 15) (oi := ⟨some 116, _, _, _, _, _⟩) (v := ?_) rfl (by kernel_rfl) (by kernel_rfl) (by kernel_rfl) (fun _ _ _ h => h) (Or.inl ⟨by rfl, ?_⟩) hHeld ?_
            rotate_left
            · intro w hSw; (try dsimp only at hSw); go_simp; try with_reducible rfl
            try simp only [Act.put, List.setIfInBounds_toArray, List.set_cons_zero, List.set_cons_succ]
            refine wpAnyH_take (i := 16) (oi := ⟨some 117, _, _, _, _, _⟩) (v := ?_) rfl (by kernel_rfl) (by kernel_rfl) (by kernel_rfl) (fun _ _ _ h => h) (Or.inl ⟨by rfl, ?_⟩) hHeld ?_
            rotate_left
            · intro w hSw; (try dsimp only at hSw); go_simp; try with_reducible rfl
            try simp only [Act.put, List.setIfInBounds_toArray, List.set_cons_zero, List.set_cons_succ]
            refine wpAnyH_done (by kernel_rfl) ?_ _
            refine NoPanic.normal ?_
            go_wp2_with fail
            go_meet
            exact ⟨by simp, HY1.out⟩
        case rest => as_aux_lemma =>
        obtain ⟨rfl, hp3⟩ := hcut
        have HINV := Lib.hid (Run.inv (N := N) (acts := acts) (i := i + 1))
        rw [HS1.out] at HINV
        obtain ⟨S', hS'⟩ : ∃ S', (doS N S ⟨kd, p1, p2, ll⟩).1 = S' := ⟨_, rfl⟩
        rw [hS'] at hp3 HINV
        have HSS : Hid (runS N ls0 (acts.take (i + 1)) = S') := HS1.out.trans hS'
        have HP3 := Lib.hid hp3
        have hrc := hp3.rcells HINV.out.len
        obtain ⟨Hl, hlw⟩ := hp3.lw
        have HLW := Lib.hid hlw
        obtain ⟨_, _, rc3, ⟨aw0, cw0, rc5⟩, ⟨aw1, cw1, rc6⟩, _⟩ := hrc
        obtain ⟨k0, hk0⟩ : ∃ k, (S'.s.w false).length = k := ⟨_, rfl⟩
        obtain ⟨k1, hk1⟩ : ∃ k, (S'.s.w true).length = k := ⟨_, rfl⟩
        obtain ⟨o0, ho0⟩ : ∃ o, S'.s.o false = o := ⟨_, rfl⟩
        rw [hk0] at rc5
        rw [hk1] at rc6
        rw [ho0] at rc3
        have q2 : wc.cell? ⟨Wd, 2, none⟩ = some (.pointer (some ⟨R, 0, none⟩)) := hlw.cells 2
        have x1 : Hid (∀ k, Calls Tryd.prog 37 #[.pointer (some ⟨R, 0, none⟩), .int .i64 1] (wc.drewN k) fun e w' => e = .returned (.int .i64 k1) ∧ ∃ m, w' = wc.drewN m) := fun k => (lw_rwaits (HLW.out.below (below_drewN (Below.refl _ _) k)) true 1 rfl k1 hk1).mono fun _ _ ⟨a, b⟩ => ⟨a, k, b.symm⟩
        have x0 : Hid (∀ k, Calls Tryd.prog 37 #[.pointer (some ⟨R, 0, none⟩), .int .i64 0] (wc.drewN k) fun e w' => e = .returned (.int .i64 k0) ∧ ∃ m, w' = wc.drewN m) := fun k => (lw_rwaits (HLW.out.below (below_drewN (Below.refl _ _) k)) false 0 rfl k0 hk0).mono fun _ _ ⟨a, b⟩ => ⟨a, k, b.symm⟩
        have x2 : Hid (∀ k, Calls Tryd.prog 37 #[.pointer (some ⟨R, 0, none⟩), .int .i64 2] (wc.drewN k) fun e w' => e = .returned (.int .i64 0) ∧ ∃ m, w' = wc.drewN m) := fun k => (relay_waits_bad (some ⟨R, 0, none⟩) 2 (.inr (.inr (by omega))) (wc.drewN k)).mono fun _ _ ⟨a, b⟩ => ⟨a, k, b.symm⟩
        have HOK : Hid (S'.s.o false = o0 ∧ (S'.s.w false).length = k0) := ⟨ho0, hk0⟩
        clear hp3 hlw HP2 HBX2 g0 g1 g2 g3 hCl2 HS1 hS' HL HACT HLS HXL HSM HNO HBW hk0 hk1 ho0
        go_upto_region 26 with fail
        go_quiet (first | (with_reducible exact x1.out _) | (with_reducible exact x0.out _) | (with_reducible exact x2.out _))
        clear x1 x0 x2
        obtain ⟨W2, hW2⟩ : ∃ W, wc.drewN nq = W := ⟨_, rfl⟩
        have y3 : W2.cell? ⟨r, 3, none⟩ = some (.bool o0) := by rw [← hW2]; exact rc3
        have y5 : W2.cell? ⟨r, 5, none⟩ = some (.slice aw0 k0 cw0) := by rw [← hW2]; exact rc5
        have y2 : W2.cell? ⟨Wd, 2, none⟩ = some (.pointer (some ⟨R, 0, none⟩)) := by rw [← hW2]; exact q2
        have HP4 : Hid (Pair w W2 Wd R ln r m N S' S'.s C) := by show Pair _ _ _ _ _ _ _ _ _ _ _; rw [← hW2]; exact HP3.out.on' (below_drewN (Below.refl _ _) _)
        obtain ⟨Hm, hlm⟩ := HP4.out.lw
        obtain ⟨od, hod⟩ : ∃ od, (o0 && decide (k0 = 0)) = od := ⟨_, rfl⟩
        have x3 : Hid (∀ k, Calls Tryd.prog 39 #[.pointer (some ⟨R, 0, none⟩)] (W2.drewN k) fun e w' => e = .returned (.bool od) ∧ ∃ m, w' = W2.drewN m) := fun k => (lw_done (hlm.below (below_drewN (Below.refl _ _) k)) od (by rw [HOK.out.1, HOK.out.2, hod])).mono fun _ _ ⟨a, b⟩ => ⟨a, k, b.symm⟩
        have HFIN : Hid (∀ q, Pair w (W2.drewN q) Wd R ln r m N (runS N ls0 (acts.take (i + 1))) (runS N ls0 (acts.take (i + 1))).s C) := by
          intro q
          rw [HSS.out]
          exact HP4.out.on' (below_drewN (Below.refl _ _) _)
        rw [hW2]
        clear rc3 rc5 rc6 q2 hW2 hlm HP3 HP4 HOK HLW HSS HINV
        cases o0
        · simp only [Bool.false_and] at hod
          subst hod
          go_upto_region 28 with fail
          go_quiet (first | (with_reducible exact x3.out _))
          go_wp2_with fail
          go_roundg (len1 - (i + 1))
          case measure => omega
          case rel => exact ⟨i + 1, C, by omega, by go_num, HFIN.out _⟩
        · by_cases hz : k0 = 0
          · obtain rfl : od = true := by rw [← hod, decide_eq_true hz]; rfl
            clear hod
            subst hz
            go_upto_region 28 with fail
            go_quiet (first | (with_reducible exact x3.out _))
            go_wp2_with fail
            go_roundg (len1 - (i + 1))
            case measure => omega
            case rel => exact ⟨i + 1, C, by omega, by go_num, HFIN.out _⟩
          · obtain rfl : od = false := by rw [← hod, decide_eq_false hz]; rfl
            clear hod
            go_upto_region 28 with fail
            go_quiet (first | (with_reducible exact x3.out _))
            go_wp2_with fail
            go_roundg (len1 - (i + 1))
            case measure => omega
            case rel => exact ⟨i + 1, C, by omega, by go_num, HFIN.out _⟩
      · as_aux_lemma =>
        have hin : i = len1 := by omega
        have HINV := Lib.hid (Run.inv (N := N) (acts := acts) (i := i))
        obtain ⟨S, hS⟩ : ∃ S, runS N ls0 (acts.take i) = S := ⟨_, rfl⟩
        rw [hS] at hrun HINV
        have hbel := hrun.bel
        have HBE := Lib.hid hbel
        have hsz := hbel.size
        obtain ⟨Hl, hlw⟩ := hrun.lw
        have q2 : wr.cell? ⟨Wd, 2, none⟩ = some (.pointer (some ⟨R, 0, none⟩)) := hlw.cells 2
        have HLW := Lib.hid hlw
        have HPR := Lib.hid hrun
        have HDL : Hid (∀ e, e ∈ S.s.evs → e.data.length ≤ 500000) := fun e he => Nat.le_trans (HINV.out.evd e he).2.1 (by decide)
        clear hrun hbel hlw hS
        go_wp2_with fail
        refine Calls.mono (lw_transcript HLW.out HDL.out) ?_
        rintro e w5 ⟨vT, rfl, ht, h5, hb5⟩
        obtain ⟨o0, ho0⟩ : ∃ o, S.s.o false = o := ⟨_, rfl⟩
        rw [ho0]
        obtain ⟨tsp, tsc, _, hvT, _⟩ := ht.get
        obtain ⟨tn, htn⟩ : ∃ n, S.s.evs.length = n := ⟨_, rfl⟩
        rw [htn] at hvT
        subst hvT
        clear htn
        obtain ⟨T, hT⟩ : ∃ T, w5.heap.size = T := ⟨_, rfl⟩
        obtain ⟨w6, hw6⟩ : ∃ w6, w5.alloc (.cells #[(.slice tsp tn tsc), .bool o0] 63) = w6 := ⟨_, rfl⟩
        have hb6 : Below w5.heap.size w5 w6 := by rw [← hw6]; exact (Below.refl _ _).alloc (Nat.le_refl _) _
        have hTT : w6.heap[T]? = some (.cells #[(.slice tsp tn tsc), .bool o0] 63 (0, 0)) := by rw [← hw6, ← hT]; exact heap_alloc_new w5 _
        have t0 : w6.cell? ⟨T, 0, none⟩ = some (.slice tsp tn tsc) := cell_at hTT 0
        have t1 : w6.cell? ⟨T, 1, none⟩ = some (.bool o0) := cell_at hTT 1
        have hb36 : Below wr.heap.size wr w6 := hb5.trans (hb6.mono hb5.size)
        have HSH : Hid (Shown w6 (.slice tsp tn tsc) S.s.evs) := ht.shown.below hb6
        have HP6 := Lib.hid (HPR.out.on' hb36)
        have HB6 := Lib.hid (HBE.out.trans (hb36.mono hsz))
        obtain ⟨_, _, rc3, _, _, vE, rc2, hse⟩ := HP6.out.rcells HINV.out.len
        rw [ho0] at rc3
        have HSE := Lib.hid hse
        have xs : Hid (∀ k, Calls Tryd.prog 34 #[(.slice tsp tn tsc), vE] (w6.drewN k) fun e w' => e = .returned (.bool true) ∧ ∃ m, w' = w6.drewN m) := fun k => (ref_same (HSH.out.below (below_drewN (Below.refl _ _) k)) (HSE.out.below (below_drewN (Below.refl _ _) k)) HINV.out.len).mono fun _ _ ⟨a, m, b⟩ => ⟨a, k + m, by rw [b, World.drewN_drewN]⟩
        clear ht h5 hb5 hb6 hTT hb36 hse HPR HLW HDL q2 HSH HSE
        go_upto_region 32 with fail
        go_quiet (first | (with_reducible exact xs.out _))
        clear xs
        have HP7 : Hid (Pair w (w6.drewN nq) Wd R ln r m N S S.s C0) := HP6.out.on' (below_drewN (Below.refl _ _) _)
        clear HP6 t0 t1 rc3 rc2
        go_wp2_with fail
        go_loopg [194] 2 (fun g v194 wx => ((g = 2 ∧ v194 = .int .i64 0) ∨ (g = 1 ∧ v194 = .int .i64 1) ∨ (g = 0 ∧ v194 = .int .i64 2)) ∧ Hid (Pair w wx Wd R ln r m N S S.s C0))
        case atStart => exact ⟨.inl ⟨rfl, rfl⟩, HP7⟩
        case round =>
          clear HP7
          obtain ⟨hg, HP⟩ := hrel
          rcases hg with ⟨rfl, rfl⟩ | ⟨rfl, rfl⟩ | ⟨rfl, rfl⟩
          · obtain ⟨Hl, hlw⟩ := HP.out.lw
            obtain ⟨Gl, hrr⟩ := HP.out.rr
            obtain ⟨Fu, hru, _⟩ := hrr.line true
            obtain ⟨Fc, hrc, _⟩ := hrr.line false
            obtain ⟨rc0, rc1⟩ := HP.out.rcells'
            obtain ⟨PU, hPU⟩ : ∃ p, ln true = p := ⟨_, rfl⟩
            obtain ⟨PC, hPC⟩ : ∃ p, ln false = p := ⟨_, rfl⟩
            obtain ⟨pu, hpu⟩ : ∃ p, m true = p := ⟨_, rfl⟩
            obtain ⟨pc, hpc⟩ : ∃ p, m false = p := ⟨_, rfl⟩
            obtain ⟨nu, hnu⟩ : ∃ k, ((S.s.l true).x false).length = k := ⟨_, rfl⟩
            obtain ⟨nc, hnc⟩ : ∃ k, ((S.s.l false).x false).length = k := ⟨_, rfl⟩
            obtain ⟨ou, hou⟩ : ∃ o, ((S.s.l true).e false && decide (((S.s.l true).x false).length = 0)) = o := ⟨_, rfl⟩
            obtain ⟨oc, hoc⟩ : ∃ o, ((S.s.l false).e false && decide (((S.s.l false).x false).length = 0)) = o := ⟨_, rfl⟩
            obtain ⟨qu, su, cu, u0, u1⟩ := hru.cells false
            obtain ⟨qc, sc, cc, v0, v1⟩ := hrc.cells false
            have q0 : wr.cell? ⟨Wd, 0, none⟩ = some (.pointer (some ⟨PU, 0, none⟩)) := by rw [← hPU]; exact hlw.cells 0
            have q1 : wr.cell? ⟨Wd, 1, none⟩ = some (.pointer (some ⟨PC, 0, none⟩)) := by rw [← hPC]; exact hlw.cells 1
            simp only [Bool.false_eq_true, if_false] at u0 v0
            rw [hpu] at rc0 u0 hru
            rw [hpc] at rc1 v0 hrc
            rw [hnu] at u1
            rw [hnc] at v1
            have e1 : Hid (∀ k, Calls Tryd.prog 21 #[.pointer (some ⟨PU, 0, none⟩), .int .i64 0] (wr.drewN k) fun e w' => e = .returned (.int .i64 nu) ∧ ∃ m, w' = wr.drewN m) := by
              intro k; rw [← hPU]; exact (lw_waits (hlw.below (below_drewN (Below.refl _ _) k)) true false 0 rfl nu hnu).mono fun _ _ ⟨a, b⟩ => ⟨a, k, b.symm⟩
            have e2 : Hid (∀ k, Calls Tryd.prog 21 #[.pointer (some ⟨PC, 0, none⟩), .int .i64 0] (wr.drewN k) fun e w' => e = .returned (.int .i64 nc) ∧ ∃ m, w' = wr.drewN m) := by
              intro k; rw [← hPC]; exact (lw_waits (hlw.below (below_drewN (Below.refl _ _) k)) false false 0 rfl nc hnc).mono fun _ _ ⟨a, b⟩ => ⟨a, k, b.symm⟩
            have e3 : Hid (∀ k, Calls Tryd.prog 19 #[.pointer (some ⟨PU, 0, none⟩), .int .i64 0] (wr.drewN k) fun e w' => e = .returned (.bool ou) ∧ ∃ m, w' = wr.drewN m) := by
              intro k; rw [← hPU]; exact (lw_over (hlw.below (below_drewN (Below.refl _ _) k)) true false 0 rfl ou hou).mono fun _ _ ⟨a, b⟩ => ⟨a, k, b.symm⟩
            have e5 : Hid (∀ k, Calls Tryd.prog 19 #[.pointer (some ⟨PC, 0, none⟩), .int .i64 0] (wr.drewN k) fun e w' => e = .returned (.bool oc) ∧ ∃ m, w' = wr.drewN m) := by
              intro k; rw [← hPC]; exact (lw_over (hlw.below (below_drewN (Below.refl _ _) k)) false false 0 rfl oc hoc).mono fun _ _ ⟨a, b⟩ => ⟨a, k, b.symm⟩
            have e4 : Hid (∀ k, Calls Tryd.prog 26 #[.pointer (some ⟨pu, 0, none⟩), .int .i64 0] (wr.drewN k) fun e w' => e = .returned (.bool ou) ∧ ∃ m, w' = wr.drewN m) := fun k => ref_over_q hru false 0 rfl ou hou k
            have e6 : Hid (∀ k, Calls Tryd.prog 26 #[.pointer (some ⟨pc, 0, none⟩), .int .i64 0] (wr.drewN k) fun e w' => e = .returned (.bool oc) ∧ ∃ m, w' = wr.drewN m) := fun k => ref_over_q hrc false 0 rfl oc hoc k
            have HN' : Hid (∀ q, Pair w (wr.drewN q) Wd R ln r m N S S.s C0) := fun q => HP.out.on' (below_drewN (Below.refl _ _) _)
            clear HP hlw hrr hru hrc hPU hPC hpu hpc hnu hnc hou hoc
            go_upto_region 37 with fail
            refine reg37_0 q0 q1 rc0 rc1 u0 u1 v0 v1 e1 e2 e3 e4 e5 e6 (Lib.hid ?_)
            intro nq z197 z198 z199 z200 z201 z202 z203 z204 z205 z206 z207 z208 z209 z210 z211 z212 z213 z214 z215 z216 z217 z218 z219 z220 z221 z222 z223 z224 z225 z226 z227 z228 z229 z230 z231 z232 z233 z234 z235 z236 z237 z238 z239 z240 z241 z242 z243 z244 z245 z246 z247 z248 z249 z250 z251 z252 z253 z254 z255 z256 z257 z258 z259 z260 z261 z262 z263 z264 z265 z266 z267
            clear q0 q1 rc0 rc1 u0 u1 v0 v1 e1 e2 e3 e4 e5 e6
            go_wp2_with fail
            go_roundg 1
            case measure => omega
            case rel => exact ⟨.inr (.inl ⟨rfl, rfl⟩), HN'.out _⟩
          · obtain ⟨Hl, hlw⟩ := HP.out.lw
            obtain ⟨Gl, hrr⟩ := HP.out.rr
            obtain ⟨Fu, hru, _⟩ := hrr.line true
            obtain ⟨Fc, hrc, _⟩ := hrr.line false
            obtain ⟨rc0, rc1⟩ := HP.out.rcells'
            obtain ⟨PU, hPU⟩ : ∃ p, ln true = p := ⟨_, rfl⟩
            obtain ⟨PC, hPC⟩ : ∃ p, ln false = p := ⟨_, rfl⟩
            obtain ⟨pu, hpu⟩ : ∃ p, m true = p := ⟨_, rfl⟩
            obtain ⟨pc, hpc⟩ : ∃ p, m false = p := ⟨_, rfl⟩
            obtain ⟨nu, hnu⟩ : ∃ k, ((S.s.l true).x true).length = k := ⟨_, rfl⟩
            obtain ⟨nc, hnc⟩ : ∃ k, ((S.s.l false).x true).length = k := ⟨_, rfl⟩
            obtain ⟨ou, hou⟩ : ∃ o, ((S.s.l true).e true && decide (((S.s.l true).x true).length = 0)) = o := ⟨_, rfl⟩
            obtain ⟨oc, hoc⟩ : ∃ o, ((S.s.l false).e true && decide (((S.s.l false).x true).length = 0)) = o := ⟨_, rfl⟩
            obtain ⟨qu, su, cu, u0, u1⟩ := hru.cells true
            obtain ⟨qc, sc, cc, v0, v1⟩ := hrc.cells true
            have q0 : wr.cell? ⟨Wd, 0, none⟩ = some (.pointer (some ⟨PU, 0, none⟩)) := by rw [← hPU]; exact hlw.cells 0
            have q1 : wr.cell? ⟨Wd, 1, none⟩ = some (.pointer (some ⟨PC, 0, none⟩)) := by rw [← hPC]; exact hlw.cells 1
            simp only [if_true] at u0 v0
            rw [hpu] at rc0 u0 hru
            rw [hpc] at rc1 v0 hrc
            rw [hnu] at u1
            rw [hnc] at v1
            have e1 : Hid (∀ k, Calls Tryd.prog 21 #[.pointer (some ⟨PU, 0, none⟩), .int .i64 1] (wr.drewN k) fun e w' => e = .returned (.int .i64 nu) ∧ ∃ m, w' = wr.drewN m) := by
              intro k; rw [← hPU]; exact (lw_waits (hlw.below (below_drewN (Below.refl _ _) k)) true true 1 rfl nu hnu).mono fun _ _ ⟨a, b⟩ => ⟨a, k, b.symm⟩
            have e2 : Hid (∀ k, Calls Tryd.prog 21 #[.pointer (some ⟨PC, 0, none⟩), .int .i64 1] (wr.drewN k) fun e w' => e = .returned (.int .i64 nc) ∧ ∃ m, w' = wr.drewN m) := by
              intro k; rw [← hPC]; exact (lw_waits (hlw.below (below_drewN (Below.refl _ _) k)) false true 1 rfl nc hnc).mono fun _ _ ⟨a, b⟩ => ⟨a, k, b.symm⟩
            have e3 : Hid (∀ k, Calls Tryd.prog 19 #[.pointer (some ⟨PU, 0, none⟩), .int .i64 1] (wr.drewN k) fun e w' => e = .returned (.bool ou) ∧ ∃ m, w' = wr.drewN m) := by
              intro k; rw [← hPU]; exact (lw_over (hlw.below (below_drewN (Below.refl _ _) k)) true true 1 rfl ou hou).mono fun _ _ ⟨a, b⟩ => ⟨a, k, b.symm⟩
            have e5 : Hid (∀ k, Calls Tryd.prog 19 #[.pointer (some ⟨PC, 0, none⟩), .int .i64 1] (wr.drewN k) fun e w' => e = .returned (.bool oc) ∧ ∃ m, w' = wr.drewN m) := by
              intro k; rw [← hPC]; exact (lw_over (hlw.below (below_drewN (Below.refl _ _) k)) false true 1 rfl oc hoc).mono fun _ _ ⟨a, b⟩ => ⟨a, k, b.symm⟩
            have e4 : Hid (∀ k, Calls Tryd.prog 26 #[.pointer (some ⟨pu, 0, none⟩), .int .i64 1] (wr.drewN k) fun e w' => e = .returned (.bool ou) ∧ ∃ m, w' = wr.drewN m) := fun k => ref_over_q hru true 1 rfl ou hou k
            have e6 : Hid (∀ k, Calls Tryd.prog 26 #[.pointer (some ⟨pc, 0, none⟩), .int .i64 1] (wr.drewN k) fun e w' => e = .returned (.bool oc) ∧ ∃ m, w' = wr.drewN m) := fun k => ref_over_q hrc true 1 rfl oc hoc k
            have HN' : Hid (∀ q, Pair w (wr.drewN q) Wd R ln r m N S S.s C0) := fun q => HP.out.on' (below_drewN (Below.refl _ _) _)
            clear HP hlw hrr hru hrc hPU hPC hpu hpc hnu hnc hou hoc
            go_upto_region 37 with fail
            refine reg37_1 q0 q1 rc0 rc1 u0 u1 v0 v1 e1 e2 e3 e4 e5 e6 (Lib.hid ?_)
            intro nq z197 z198 z199 z200 z201 z202 z203 z204 z205 z206 z207 z208 z209 z210 z211 z212 z213 z214 z215 z216 z217 z218 z219 z220 z221 z222 z223 z224 z225 z226 z227 z228 z229 z230 z231 z232 z233 z234 z235 z236 z237 z238 z239 z240 z241 z242 z243 z244 z245 z246 z247 z248 z249 z250 z251 z252 z253 z254 z255 z256 z257 z258 z259 z260 z261 z262 z263 z264 z265 z266 z267
            clear q0 q1 rc0 rc1 u0 u1 v0 v1 e1 e2 e3 e4 e5 e6
            go_wp2_with fail
            go_roundg 0
            case measure => omega
            case rel => exact ⟨.inr (.inr ⟨rfl, rfl⟩), HN'.out _⟩
          · have HB := Lib.hid HP.out.bel
            clear HP
            go_wp2_with fail
            go_ret
            exact ⟨rfl, HB.out⟩

end Go.Proofs.YthpdphbppapkhaaDoor.relayActs
