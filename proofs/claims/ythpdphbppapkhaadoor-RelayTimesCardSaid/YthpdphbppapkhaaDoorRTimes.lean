/-
  The walk of RelayTimes. Condition: the table 'other' reads as the program's text lays it.
-/
import Derived.Test.YthpdphbppapkhaaDoorRun7
import Derived.BigQuiet
namespace Go.Proofs.YthpdphbppapkhaaDoor.relayTimes
open Go.RowKit qb

set_option maxRecDepth 100000 in
set_option maxHeartbeats 4000000 in
theorem walk (a0 : Int) (a1 : Option Addr) (len1 cap1 : Nat) (acts : List Act) (w : World) (h0 : I64 a0) (h1 : IsActs w a1 len1 cap1 acts) (ho : Oth w) :
    Calls Tryd.prog 8 #[.int .i64 a0, .slice a1 len1 cap1] w fun e w' => e = .returned (.bool true) ∧ Below w.heap.size w w' := by
  have HO := Lib.hid ho
  have HG := Lib.hid h1
  have H0 := Lib.hid h0
  clear ho h1 h0
  by_cases hg : isGreat 150 acts = true
  · go_enter Tryd.func8, Tryd.ntmps8
    go_wp2_with fail
    refine (alive7_any w HO.out).mono ?_
    rintro e w1 ⟨rfl, hb1⟩
    go_wp2_with fail
    refine (great7_any a1 len1 cap1 acts w1 (IsActs.below HG.out hb1)).mono ?_
    rintro e w2 ⟨rfl, hb2⟩
    rw [hg]
    go_wp2_with fail
    refine (alive7_any w2 ((HO.out.below hb1 (Nat.le_refl _)).below hb2 (Nat.le_refl _))).mono ?_
    rintro e w3 ⟨rfl, hb3⟩
    go_wp2_with fail
    go_ret
    exact ⟨rfl, (hb1.trans (hb2.mono hb1.size)).trans (hb3.mono (Nat.le_trans hb1.size hb2.size))⟩
  · obtain ⟨B, hB⟩ : ∃ B, w.heap.size = B := ⟨_, rfl⟩
    go_enter Tryd.func8, Tryd.ntmps8
    go_wp2_with fail
    refine (alive7_any w HO.out).mono ?_
    rintro e w1 ⟨rfl, hb1⟩
    go_wp2_with fail
    refine (great7_any a1 len1 cap1 acts w1 (IsActs.below HG.out hb1)).mono ?_
    rintro e w2 ⟨rfl, hb2⟩
    have hlen : len1 ≤ 150 := by
      have h3 := HG.out.2.2.1
      have := hg
      unfold isGreat at this
      simp at this
      omega
    have hll : ∀ act, act ∈ acts → act.l.length ≤ 100 := by
      intro act hm
      have := hg
      unfold isGreat at this
      simp at this
      exact this.2 act hm
    have HLL : Hid _ := hll
    rw [Bool.not_eq_true] at hg
    rw [hg]
    have ho2 : Oth w2 := (HO.out.below hb1 (Nat.le_refl _)).below hb2 (Nat.le_refl _)
    have hb12 : Below w.heap.size w w2 := hb1.trans (hb2.mono hb1.size)
    have HO2 := Lib.hid ho2
    have HB2 := Lib.hid hb12
    have HA : Hid (∀ i, i < len1 → ∃ b off act, a1 = some ⟨b, off, none⟩ ∧ b < w.heap.size ∧ acts[i]? = some act ∧ IsAct w b (off + i * 4) act) := HG.out.2.2.2
    have hcap : len1 ≤ cap1 := HG.out.1
    have hcm := HG.out.2.1
    have HAL := Lib.hid HG.out.2.2.1
    unfold maxLen at hcm
    clear hg hll ho2 hb12 hb1 hb2 HG
    go_wp2_with fail
    refine (lw_new a0 H0.out w2 HO2.out).mono ?_
    rintro e w3 ⟨Wd, R, ln, N, H, rfl, hN, h3, hb3, hH3⟩
    have hrun : Run w w3 Wd R ln N acts 0 := Run.start ⟨H, h3, HB2.out.trans (hb3.mono HB2.out.size), fun k hk => Nat.le_trans HB2.out.size (hH3 k hk)⟩
    clear hN h3 hb3 hH3
    go_wp2_with fail
    go_loopg [24] len1 (fun g v24 wr => ∃ i : Nat, i + g = len1 ∧ v24 = .int .i64 i ∧ Run w wr Wd R ln N acts i)
    case atStart => exact ⟨0, by omega, rfl, hrun⟩
    case round =>
      clear hrun
      obtain ⟨i, hi, rfl, hrun⟩ := hrel
      by_cases hlt : i < len1
      · have hbel := hrun.bel
        obtain ⟨ab, ao, ⟨kd, p1, p2, ll⟩, rfl, hab, hact, la, la_n, lc, c0, c1, c2, c3, hl, _⟩ := HA.out i hlt
        have d0 := (hbel.cell (p := ⟨ab, ao + i * 4, none⟩) hab).trans c0
        have d1 := (hbel.cell (p := ⟨ab, ao + i * 4 + 1, none⟩) hab).trans c1
        have d2 := (hbel.cell (p := ⟨ab, ao + i * 4 + 2, none⟩) hab).trans c2
        have d3 := (hbel.cell (p := ⟨ab, ao + i * 4 + 3, none⟩) hab).trans c3
        have HL := Lib.hid hl
        have HACT := Lib.hid hact
        obtain ⟨C, hC⟩ : ∃ C, wr.heap.size = C := ⟨_, rfl⟩
        obtain ⟨W1, hW1⟩ : ∃ W1, wr.alloc (.cells #[.int .i64 kd, .int .i64 p1, .int .i64 p2, .slice la la_n lc] 59) = W1 := ⟨_, rfl⟩
        have hb1 : Below wr.heap.size wr W1 := by rw [← hW1]; exact (Below.refl _ _).alloc (Nat.le_refl _) _
        have hbox : W1.heap[C]? = some (.cells #[.int .i64 kd, .int .i64 p1, .int .i64 p2, .slice la la_n lc] 59 (0, 0)) := by rw [← hW1, ← hC]; exact heap_alloc_new wr _
        have g0 : W1.cell? ⟨C, 0, none⟩ = some (.int .i64 kd) := cell_at hbox 0
        have g1 : W1.cell? ⟨C, 1, none⟩ = some (.int .i64 p1) := cell_at hbox 1
        have g2 : W1.cell? ⟨C, 2, none⟩ = some (.int .i64 p2) := cell_at hbox 2
        have g3 : W1.cell? ⟨C, 3, none⟩ = some (.slice la la_n lc) := cell_at hbox 3
        have HR := Lib.hid (hrun.on hb1)
        clear c0 c1 c2 c3 hl hact hbel hrun hb1 hbox
        go_wp2_with fail
        refine Calls.mono (Run.act HR.out (by rw [HAL.out]; exact hlen) HLL.out HACT.out HL.out) ?_
        rintro e w4 ⟨rfl, hr4⟩
        have HR4 := Lib.hid hr4
        clear hr4
        go_wp2_with fail
        go_roundg (len1 - (i + 1))
        case measure => omega
        case rel => exact ⟨i + 1, by omega, by go_num, HR4.out⟩
      · have HINV := Lib.hid (Run.inv (N := N) (acts := acts) (i := i))
        obtain ⟨H4, h4, hb4, hH4, hs4⟩ := hrun
        obtain ⟨S, hS⟩ : ∃ S, runS N ls0 (acts.take i) = S := ⟨_, rfl⟩
        rw [hS] at h4 HINV
        have q2 : wr.cell? ⟨Wd, 2, none⟩ = some (.pointer (some ⟨R, 0, none⟩)) := h4.cells 2
        have H4 := Lib.hid h4
        have HB4 := Lib.hid hb4
        clear h4 hb4 hH4 hS
        go_wp2_with fail
        refine Calls.mono (lw_transcript H4.out (fun e he => Nat.le_trans (HINV.out.evd e he).2.1 (by decide))) ?_
        rintro e w5 ⟨vT, rfl, ht, h5, hb5⟩
        obtain ⟨o, ho⟩ : ∃ o, S.s.o false = o := ⟨_, rfl⟩
        rw [ho]
        obtain ⟨evs, hevs⟩ : ∃ evs, S.s.evs = evs := ⟨_, rfl⟩
        rw [hevs] at ht
        have HNT : Hid (Notes S.s) := HINV.out.toNotes
        obtain ⟨n, hn⟩ : ∃ n, evs.length = n := ⟨_, rfl⟩
        have hnl : n ≤ 4096 := by rw [← hn, ← hevs]; exact HNT.out.len
        obtain ⟨sp, sc, Q, rfl, hle, hcm5, hQ, hget⟩ := ht.get
        rw [hn] at hle
        unfold maxLen at hcm5
        have hb54 : Below w.heap.size w w5 := HB4.out.trans (hb5.mono hs4)
        have HGT : Hid _ := hget
        obtain ⟨T, hT⟩ : ∃ T, w5.heap.size = T := ⟨_, rfl⟩
        rw [hn]
        have hT0 : (w5.alloc (.cells #[.slice sp n sc, .bool o] 63)).heap[T]? = some (.cells #[.slice sp n sc, .bool o] 63 (0, 0)) := by rw [← hT]; exact heap_alloc_new w5 _
        have hb56 : Below w5.heap.size w5 (w5.alloc (.cells #[.slice sp n sc, .bool o] 63)) := (Below.refl _ _).alloc (Nat.le_refl _) _
        have hs56 : w5.heap.size < (w5.alloc (.cells #[.slice sp n sc, .bool o] 63)).heap.size := by simp
        have hs5 := Nat.le_trans hs4 hb5.size
        obtain ⟨wr0, hwr0⟩ : ∃ wr0, wr.heap.size = wr0 := ⟨_, rfl⟩
        rw [hwr0] at ht
        have HT := Lib.hid ht
        have HN := Lib.hid hn
        have hevs' := hevs
        clear ht hn hget h5 hb5 hevs
        have HB5 := Lib.hid hb54
        clear hb54
        go_wp2_with fail
        obtain ⟨w6, hw6⟩ : ∃ w6, w5.alloc (.cells #[.slice sp n sc, .bool o] 63) = w6 := ⟨_, rfl⟩
        rw [hw6] at hT0 hb56 hs56 ⊢
        have HT0 := Lib.hid hT0
        have HB56 := Lib.hid hb56
        clear hT0 hb56
        go_loopg [40] n (fun g v40 wr => ∃ i : Nat, i + g = n ∧ v40 = .int .i64 i ∧ Below w6.heap.size w6 wr)
        case atStart => exact ⟨0, by omega, rfl, Below.refl _ _⟩
        case round =>
          obtain ⟨i, hi, rfl, hb⟩ := hrel
          have t0 : wr.cell? ⟨T, 0, none⟩ = some (.slice sp n sc) := (hb.cell (p := ⟨T, 0, none⟩) (by show T < _; omega)).trans (cell_at HT0.out 0)
          by_cases hlt : i < n
          · obtain ⟨e, he⟩ : ∃ e, evs[i]? = some e := ⟨evs[i]'(by rw [HN.out]; exact hlt), by rw [List.getElem?_eq_getElem]⟩
            obtain ⟨g, x, rfl, hg1, hg2, hg3, c0, c1, c2, hsl, _⟩ := HGT.out i e he
            obtain ⟨f1, f2, f3⟩ := HNT.out.evd e (by rw [hevs']; exact List.mem_of_getElem? he)
            obtain ⟨a, c, rfl, _, _⟩ := hsl.form
            have d0 := (hb.cell (p := ⟨g, i * 3, none⟩) (by show g < _; omega)).trans ((HB56.out.cell (p := ⟨g, i * 3, none⟩) hg2).trans c0)
            have d1 := (hb.cell (p := ⟨g, i * 3 + 1, none⟩) (by show g < _; omega)).trans ((HB56.out.cell (p := ⟨g, i * 3 + 1, none⟩) hg2).trans c1)
            have d2 := (hb.cell (p := ⟨g, i * 3 + 2, none⟩) (by show g < _; omega)).trans ((HB56.out.cell (p := ⟨g, i * 3 + 2, none⟩) hg2).trans c2)
            obtain ⟨k, hk⟩ : ∃ k, e.data.length = k := ⟨_, rfl⟩
            rw [hk] at d2 f1 f2
            obtain ⟨dir, hdir⟩ : ∃ dir, e.dir = dir := ⟨_, rfl⟩
            obtain ⟨time, htime⟩ : ∃ time, e.time = time := ⟨_, rfl⟩
            rw [hdir] at d0
            rw [htime] at d1
            obtain ⟨C, hC⟩ : ∃ C, wr.heap.size = C := ⟨_, rfl⟩
            obtain ⟨W1, hW1⟩ : ∃ W1, wr.alloc (.cells #[.int .i64 dir, .int .i64 time, .slice a k c] 69) = W1 := ⟨_, rfl⟩
            have hb1 : Below wr.heap.size wr W1 := by rw [← hW1]; exact (Below.refl _ _).alloc (Nat.le_refl _) _
            have hbox : W1.heap[C]? = some (.cells #[.int .i64 dir, .int .i64 time, .slice a k c] 69 (0, 0)) := by rw [← hW1, ← hC]; exact heap_alloc_new wr _
            have k1 : W1.cell? ⟨C, 1, none⟩ = some (.int .i64 time) := cell_at hbox 1
            have k2 : W1.cell? ⟨C, 2, none⟩ = some (.slice a k c) := cell_at hbox 2
            have hbs := hb.size
            have t1 : W1.cell? ⟨T, 0, none⟩ = some (.slice (some ⟨g, 0, none⟩) n sc) := (hb1.cell (p := ⟨T, 0, none⟩) (by show T < _; omega)).trans t0
            have HBW : Hid (Below w6.heap.size w6 W1) := hb.trans (hb1.mono hbs)
            have hk0 : decide ((k : Int) = 0) = false := decide_eq_false (by omega)
            have hk1 : decide (k = 0) = false := decide_eq_false (by omega)
            have hk2 : ((k : Int) == 0) = false := by simpa using hk1
            have hk3 : (k == 0) = false := by simpa using hk1
            have hk4 : ¬ k = 0 := by omega
            rcases Nat.eq_zero_or_pos i with rfl | hpos
            · clear c0 c1 c2 hsl he hb hb1 hbox
              go_upto_region 15 with fail
              go_quiet (fail)
              go_wp2_with fail
              go_roundg (n - (0 + 1))
              case measure => omega
              case rel => exact ⟨0 + 1, by omega, by go_num, below_drewN HBW.out _⟩
            · obtain ⟨j, rfl⟩ : ∃ j, i = j + 1 := ⟨i - 1, by omega⟩
              obtain ⟨e', he'⟩ : ∃ e', evs[j]? = some e' := ⟨evs[j]'(by rw [HN.out]; omega), by rw [List.getElem?_eq_getElem]⟩
              obtain ⟨g', x', e0, _, hg2', _, _, b1, _, _⟩ := HGT.out j e' he'
              obtain rfl : g = g' := by simpa using e0
              have y1 : W1.cell? ⟨g, j * 3 + 1, none⟩ = some (.int .i64 e'.time) := (hb1.cell (p := ⟨g, j * 3 + 1, none⟩) (by show g < _; omega)).trans ((hb.cell (p := ⟨g, j * 3 + 1, none⟩) (by show g < _; omega)).trans ((HB56.out.cell (p := ⟨g, j * 3 + 1, none⟩) hg2).trans b1))
              have htt : e'.time ≤ time := by
                rw [← htime]
                have hp := HNT.out.tim
                rw [hevs'] at hp
                obtain ⟨hj1, hj2⟩ := List.getElem?_eq_some_iff.1 he'
                obtain ⟨hi1, hi2⟩ := List.getElem?_eq_some_iff.1 he
                rw [← hj2, ← hi2]
                exact List.pairwise_iff_getElem.1 hp j (j + 1) hj1 hi1 (by omega)
              obtain ⟨time', htime'⟩ : ∃ t, e'.time = t := ⟨_, rfl⟩
              rw [htime'] at y1 htt
              have hlt' : ¬ time < time' := by omega
              clear c0 c1 c2 hsl he hb hb1 hbox he' b1
              go_upto_region 15 with fail
              go_quiet (fail)
              go_wp2_with fail
              go_roundg (n - (j + 1 + 1))
              case measure => omega
              case rel => exact ⟨j + 1 + 1, by omega, by go_num, below_drewN HBW.out _⟩
          · have hb6 := HB56.out
            have HBB := Lib.hid (HB5.out.trans ((HB56.out.mono hs5).trans (hb.mono (by omega))))
            have HTT : Hid (Told wr wr0 (.slice sp n sc) evs) := by rw [← HN.out]; exact (HT.out.below HB56.out).below hb
            clear hb hb6
            go_wp2_with fail
            refine Calls.mono (check_any HTT.out (fun e he => HNT.out.evd e (by rw [hevs']; exact he)) (by have := HNT.out.sum; have := HNT.out.lf; rw [hevs'] at *; omega) (by rw [HN.out]; exact hnl)) ?_
            rintro e w7 ⟨rfl, rfl⟩
            go_wp2_with fail
            go_ret
            exact ⟨rfl, HBB.out⟩

end Go.Proofs.YthpdphbppapkhaaDoor.relayTimes
