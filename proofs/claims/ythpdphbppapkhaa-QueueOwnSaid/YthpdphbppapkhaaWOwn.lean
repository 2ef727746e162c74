/-
  The walk of QueueOwn. No condition.
-/
import Derived.Test.YthpdphbppapkhaaLp
import Derived.Deep.RegionHeld3
import Derived.Laws.OwnMore
namespace Go.Proofs.Ythpdphbppapkhaa.queueOwn
open Go.RowKit qi Go.Shelf

attribute [local go_sem] Oper.semAt_some

theorem results_cellb {fn : Func} {p : Tmp} (h : fn.results = #[.cell p 4]) (tmps : Array Value) (w : World) (g : Nat) (hp : tmps.getD p undef = .pointer (some ⟨g, 0, none⟩)) {v : Value} (hc : w.cell? ⟨g, 0, none⟩ = some v) :
    (results fn tmps).run Try.prog w = .ok v w := by
  have hp' : tmps[p]?.getD undef = .pointer (some ⟨g, 0, none⟩) := by simpa using hp
  simp [results, h, hp', asAddr, loadVar, isAgg, run_underlying Try.underlying4, hc]

theorem cell_putObj_other (w : World) (D g : Nat) (o : Obj) (hn : D ≠ g) : (w.putObj D o).cell? ⟨g, 0, none⟩ = w.cell? ⟨g, 0, none⟩ := by
  have : (w.putObj D o).heap[g]? = w.heap[g]? := World.putObj_heap_other (fun e => hn e.symm)
  simp [World.cell?, this]

set_option maxRecDepth 100000 in
set_option maxHeartbeats 2000000 in
theorem walk (a0 : Option Addr) (len0 cap0 : Nat) (zs : List Int) (a1 : Int) (w : World) (h0 : IsList w a0 len0 cap0 zs) (_h1 : I64 a1) :
    Calls Try.prog 6 #[.slice a0 len0 cap0, .int .i64 a1] w fun e w' => e = .returned (.bool true) ∧ Below w.heap.size w w' := by
  refine (callsIn_wide (n := 3)).1 ?_
  refine callsIn_of_wp_marks Try.func6 rfl trivial ?_ rfl
  simp only [Try.ntmps6, List.size_toArray, List.length_cons, List.length_nil, Nat.reduceAdd, Nat.reduceSub, Array.replicate_succ, Array.replicate_zero, List.push_toArray, List.append_toArray, List.nil_append, List.cons_append]
  refine wpIn_wide.2 ?_
  obtain ⟨Bl, hBl⟩ : ∃ Bl, w.heap.size = Bl := ⟨_, rfl⟩
  have H0 := Lib.hid h0
  have hcap := h0.1
  have hcm := h0.2.1
  unfold maxLen at hcm
  obtain ⟨W3, hW3⟩ : ∃ W3, ((w.alloc (.cells #[.slice a0 len0 cap0] 35)).alloc (.cells #[.bool false] 4)).alloc (.cells #[] 3) = W3 := ⟨_, rfl⟩
  have hb3 : Below w.heap.size w W3 := by
    rw [← hW3]
    exact (((Below.refl _ w).alloc (Nat.le_refl _) _).alloc (by simp) _).alloc (by simp; omega) _
  have ho3 : OwnInts W3 w.heap.size (.slice (some ⟨w.heap.size + 1 + 1, 0, none⟩) 0 0) [] := by
    rw [← hW3]
    have := own_empty ((w.alloc (.cells #[.slice a0 len0 cap0] 35)).alloc (.cells #[.bool false] 4)) (base := w.heap.size) (by simp; omega)
    simpa using this
  have hl3 : Boxed W3 w.heap.size 35 (.slice a0 len0 cap0) := by rw [← hW3]; exact ((Boxed.new w 35 _).alloc _).alloc _
  have hr3 : Boxed W3 (w.heap.size + 1) 4 (.bool false) := by
    rw [← hW3]
    have := (Boxed.new (w.alloc (.cells #[.slice a0 len0 cap0] 35)) 4 (.bool false)).alloc (.cells #[] 3)
    simpa using this
  have hi3 : ∀ k, k ≤ len0 → Ints W3 a0 k (zs.take k) := fun k hk => by
    refine Ints.cut ⟨h0.2.2.1, fun i hi => ?_⟩ hk
    obtain ⟨b, off, e, hlt, hc, _⟩ := h0.2.2.2 i hi
    exact ⟨b, off, e, (hb3.cell (p := ⟨b, off + i, none⟩) hlt).trans hc⟩
  have hs3 : w.heap.size ≤ W3.heap.size := hb3.size
  rw [hBl] at hb3 ho3 hl3 hr3 hs3
  have c3 := hl3.cell
  have HB3 := Lib.hid hb3
  have HO3 := Lib.hid ho3
  have HL3 := Lib.hid hl3
  have HR3 := Lib.hid hr3
  have HI3 : Hid _ := hi3
  have HS3 := Lib.hid hs3
  clear h0 hb3 ho3 hl3 hr3 hi3 hs3
  go_upto_region 1 with fail
  go_cut [] from 13 to 19 (fun w' => ∃ vl xs, Boxed w' Bl 35 vl ∧ Boxed w' (Bl + 1) 4 (.bool false) ∧ OwnInts w' Bl vl xs ∧ xs.length ≤ 50 ∧ Below Bl w w')
  case first =>
    have hfin : ∀ v' w5 k, k ≤ 50 → k ≤ len0 → OwnInts w5 Bl v' ([] ++ zs.take k) → W3.grownBy w5 (some (Bl + 1 + 1)) → w5.cell? ⟨Bl, 0, none⟩ = some (.slice a0 len0 cap0) ∧ w5.frozen? ⟨Bl, 0, none⟩ = false ∧ (∃ vl xs, Boxed (w5.setCell ⟨Bl, 0, none⟩ v') Bl 35 vl ∧ Boxed (w5.setCell ⟨Bl, 0, none⟩ v') (Bl + 1) 4 (.bool false) ∧ OwnInts (w5.setCell ⟨Bl, 0, none⟩ v') Bl vl xs ∧ xs.length ≤ 50 ∧ Below Bl w (w5.setCell ⟨Bl, 0, none⟩ v')) := by
      intro v' w5 k hk1 hk2 hown hgrow
      have h1 : Boxed w5 Bl 35 (.slice a0 len0 cap0) := HL3.out.kept hgrow (by simp; omega)
      have h2 : Boxed w5 (Bl + 1) 4 (.bool false) := HR3.out.kept hgrow (by simp)
      refine ⟨h1.cell, h1.frozen, v', zs.take k, h1.set v', ?_, ?_, by rw [List.length_take]; omega, ?_⟩
      · exact (Below.heap_setCell _ _ _ _ (by simp)).trans h2
      · rw [List.nil_append] at hown
        exact ownsRow_setCell_other hown (h1.not_row (by decide) hown).symm _
      · exact (HB3.out.grown hgrow HS3.out (fun k e => by cases e; omega)).setCell (Nat.le_refl _) _
    have HFIN : Hid _ := hfin
    clear hfin
    by_cases h50 : len0 ≤ 50
    · go_wp2_with (at_builtin; refine wpList_app rfl _ _ rfl Bl _ [] (zs.take len0) rfl HO3.out a0 len0 cap0 rfl (HI3.out len0 (Nat.le_refl _)) (by simp; omega) HS3.out ?_; intro v' w5 hown5 hgrow5 hat5; obtain ⟨sp5, l5, sc5, rfl⟩ := own_any hown5; obtain ⟨x1, x2, x3⟩ := HFIN.out _ w5 len0 h50 (Nat.le_refl _) hown5 hgrow5)
      go_meet
      exact x3
    · go_wp2_with (at_builtin; refine wpList_app rfl _ _ rfl Bl _ [] (zs.take 50) rfl HO3.out a0 50 cap0 rfl (HI3.out 50 (by omega)) (by simp) HS3.out ?_; intro v' w5 hown5 hgrow5 hat5; obtain ⟨sp5, l5, sc5, rfl⟩ := own_any hown5; obtain ⟨x1, x2, x3⟩ := HFIN.out _ w5 50 (Nat.le_refl _) (by omega) hown5 hgrow5)
      go_meet
      exact x3
  case rest =>
  clear H0 hcap hcm hW3 c3 HB3 HO3 HL3 HR3 HI3 HS3
  obtain ⟨vl, xs, hbl, hbr, hol, hxl, hbe⟩ := hcut
  obtain ⟨sl, cl, rfl⟩ := hol.form
  obtain ⟨n, hn⟩ : ∃ n, xs.length = n := ⟨_, rfl⟩
  rw [hn] at hbl hol hxl
  have hint := ints_of_own (show wc.ownsRow Bl 3 1 (.slice sl n cl) n (xs.map fun x => .int .i64 x) by have := hol; unfold OwnInts at this; rwa [hn] at this)
  have HN := Lib.hid hn
  have HBL := Lib.hid hbl
  have HBR := Lib.hid hbr
  have HOL := Lib.hid hol
  have HBE := Lib.hid hbe
  have HIN := Lib.hid hint
  clear hn hbl hbr hol hbe hint
  go_wp2_with fail
  refine (q_new 60 (by decide) (by decide) wc).mono ?_
  rintro e w3 ⟨b, rfl, hq, hb3, hbb, hb3l⟩
  obtain ⟨Bq, hBq⟩ : ∃ Bq, w3.heap.size = Bq := ⟨_, rfl⟩
  go_wp2_with fail
  refine (alive_any _).mono ?_
  rintro e w4 ⟨rfl, hb4⟩
  have hs34 : (w3.alloc (.cells #[.pointer (some ⟨b, 0, none⟩)] 25)).heap.size = Bq + 1 := by simp [hBq]
  rw [hs34] at hb4
  have hs4 : Bq + 1 ≤ w4.heap.size := by have := hb4.size; rwa [hs34] at this
  have HB4 := Lib.hid hb4
  have q4 : w4.cell? ⟨Bq, 0, none⟩ = some (.pointer (some ⟨b, 0, none⟩)) := (hb4.cell (p := ⟨Bq, 0, none⟩) (Nat.lt_succ_self _)).trans (by rw [← hBq]; simp)
  have hl4 : Boxed w4 Bl 35 (.slice sl n cl) := boxed_below ((boxed_below HBL.out hb3 (Nat.le_refl _)).alloc (.cells #[.pointer (some ⟨b, 0, none⟩)] 25)) hb4 (by simp [hBq])
  obtain ⟨W5, hW5⟩ : ∃ W5, w4.alloc (.cells #[] 3) = W5 := ⟨_, rfl⟩
  have c5 : W5.cell? ⟨Bl, 0, none⟩ = some (.slice sl n cl) := by rw [← hW5]; exact (hl4.alloc _).cell
  have hi5 : Ints W5 sl n xs := by
    have h4 : Ints w4 sl n xs := by
      have := own_below ((own_below HOL.out hb3 (Nat.le_refl _)).alloc (.cells #[.pointer (some ⟨b, 0, none⟩)] 25)) hb4 (by simp [hBq])
      rw [HN.out] at this
      exact ints_of_own this
    rw [← hW5]
    exact ⟨h4.1, fun i hi => by obtain ⟨b', o', e, h⟩ := h4.2 i hi; exact ⟨b', o', e, (World.cell?_alloc_lt _ _ _ (World.block_lt_of_cell? w4 _ h)).trans h⟩⟩
  have hsl : Bl ≤ w4.heap.size := by have := HBL.out.lt; have := hb3.size; omega
  have ho5 : OwnInts W5 Bl (.slice (some ⟨w4.heap.size, 0, none⟩) 0 0) [] := by rw [← hW5]; exact own_empty w4 hsl
  have hs5 : Bl ≤ W5.heap.size := by rw [← hW5]; simp; omega
  have HI5 := Lib.hid hi5
  have HO5 := Lib.hid ho5
  have HS5 := Lib.hid hs5
  have HQ := Lib.hid hq
  have HB3 := Lib.hid hb3
  clear hl4 hi5 ho5 hs5 hq hb3 hb4 hs34
  go_wp2_with (at_builtin; refine wpList_app rfl _ _ rfl Bl _ [] xs rfl HO5.out sl n cl rfl HI5.out (by simp; omega) HS5.out ?_; intro v' w5 hown5 hgrow5 hat4; have hat5 : v'.ownBlock = some w4.heap.size ∨ v'.ownBlock = some W5.heap.size := hat4; clear hat4; obtain ⟨sp5, l5, sc5, rfl⟩ := own_any hown5)
  have hst := St.mk0 (Bl := Bl) (xs := xs) (by have := HBL.out; exact this) HBR.out HOL.out HBE.out HQ.out HB3.out hbb (by have := HB4.out; rw [hBq]; exact this) (by have := hown5; rw [List.nil_append] at this; exact this) (by rw [hW5]; exact hgrow5) (by rw [← hW5] at hat5; simpa using hat5)
  rw [hBq] at hst
  obtain ⟨W6, hW6⟩ : ∃ W6, w5.alloc (.cells #[.slice sp5 l5 sc5] 35) = W6 := ⟨_, rfl⟩
  obtain ⟨Bw, hBw⟩ : ∃ Bw, w5.heap.size = Bw := ⟨_, rfl⟩
  rw [hW6, hBw] at hst
  have HST := Lib.hid hst
  have x1 : W6.drew.cell? ⟨Bl, 0, none⟩ = some (.slice sl n cl) := hst.bl.cell
  have x2 : W6.drew.cell? ⟨Bq, 0, none⟩ = some (.pointer (some ⟨b, 0, none⟩)) := hst.bq.cell
  have HTK : Hid (took n ([] : List Int).length 60 false = n) := by show _ = _; simp [took]; omega
  have HXT : Hid ([] ++ xs.take n = xs) := by show _ = _; rw [List.nil_append, ← HN.out, List.take_length]
  rw [hW6]
  clear hst hown5 hgrow5 hat5 HBL HBR HOL HBE HQ HB3 HB4 HO5 HI5 HS5 q4 hW5 c5 hbb hb3l hBq hs4 hsl
  refine wp_region_noPanic ?_
  refine wp_region_held_drew (S := fun w' => w'.cell? ⟨Bl, 0, none⟩ = some (.slice sl n cl) ∧ w'.cell? ⟨Bq, 0, none⟩ = some (.pointer (some ⟨b, 0, none⟩))) (by kernel_rfl) (⟨x1, x2⟩) (fun hHeld => ?_)
  refine wpAnyH_take (i := 0) (oi := ⟨some 37, _, _, _, _, _⟩) (v := ?_) rfl (by kernel_rfl) (by kernel_rfl) (by kernel_rfl) (fun _ _ _ h => h) (Or.inl ⟨by rfl, ?_⟩) hHeld ?_
  rotate_left
  · intro w hSw; (try dsimp only at hSw); go_simp; try with_reducible rfl
  try simp only [Act.put, List.setIfInBounds_toArray, List.set_cons_zero, List.set_cons_succ]
  refine wpAnyH_take (i := 1) (oi := ⟨some 38, _, _, _, _, _⟩) (v := ?_) rfl (by kernel_rfl) (by kernel_rfl) (by kernel_rfl) (fun _ _ _ h => h) (Or.inl ⟨by rfl, ?_⟩) hHeld ?_
  rotate_left
  · intro w hSw; (try dsimp only at hSw); go_simp; try with_reducible rfl
  try simp only [Act.put, List.setIfInBounds_toArray, List.set_cons_zero, List.set_cons_succ]
  refine wpAnyH_take (i := 3) (oi := ⟨some 40, _, _, _, _, _⟩) (v := ?_) rfl (by kernel_rfl) (by kernel_rfl) (by kernel_rfl) (fun _ _ _ h => h) (Or.inl ⟨by rfl, ?_⟩) hHeld ?_
  rotate_left
  · intro w hSw; (try dsimp only at hSw); go_simp; try with_reducible rfl
  try simp only [Act.put, List.setIfInBounds_toArray, List.set_cons_zero, List.set_cons_succ]
  refine wpAnyH_take (i := 4) (oi := ⟨some 41, _, _, _, _, _⟩) (v := ?_) rfl (by kernel_rfl) (by kernel_rfl) (by kernel_rfl) (fun _ _ _ h => h) (Or.inl ⟨by rfl, ?_⟩) hHeld ?_
  rotate_left
  · intro w hSw; (try dsimp only at hSw); go_simp; try with_reducible rfl
  try simp only [Act.put, List.setIfInBounds_toArray, List.set_cons_zero, List.set_cons_succ]
  refine wpAnyH_ready (rs := [2]) (by kernel_rfl) (by simp) (AllReadyH.cons (o := ⟨some 39, _, _, _, _, _⟩) rfl (fun K hK => ?_) AllReadyH.nil)
  go_simp
  refine (q_put_at (HST.out.drewN 1).q sl n cl ((HST.out.drewN 1).given HN.out) n xs HTK.out HXT.out).mono ?_; rintro e w7 ⟨rfl, F7, hq7, hk7, hs7⟩; have hst7 := (HST.out.drewN 1).keeps hk7 hq7 hs7; have y1 := hst7.bl.cell; have y2 := hst7.bq.cell; have HST7 := Lib.hid hst7; clear hst7 hq7 hk7 hs7
  refine hK.out _ _ (⟨y1, y2⟩) (fun hHeld => ?_)
  clear hK K
  try simp only [Act.put, List.setIfInBounds_toArray, List.set_cons_zero, List.set_cons_succ]
  refine wpAnyH_take (i := 5) (oi := ⟨some 42, _, _, _, _, _⟩) (v := ?_) rfl (by kernel_rfl) (by kernel_rfl) (by kernel_rfl) (fun _ _ _ h => h) (Or.inl ⟨by rfl, ?_⟩) hHeld ?_
  rotate_left
  · intro w hSw; (try dsimp only at hSw); go_simp; try with_reducible rfl
  try simp only [Act.put, List.setIfInBounds_toArray, List.set_cons_zero, List.set_cons_succ]
  refine wpAnyH_done (by kernel_rfl) ?_ _
  refine NoPanic.normal ?_
  clear hHeld y1 y2 x1 x2 HTK HXT HST hW6
  have hst7 := HST7.out
  have y1 := hst7.bl.cell
  clear hHeld
  go_wp2_with fail
  go_loopg [45] n (fun g v45 wr => ∃ i : Nat, i + g = n ∧ v45 = .int .i64 i ∧ St w wr Bl Bq Bw b F7 (turned (fun x => wrap64 (x + 1)) xs i) xs xs (.slice sl n cl) (.slice sp5 l5 sc5))
  case atStart => exact ⟨0, by omega, rfl, by rw [turned_zero]; exact hst7⟩
  case round =>
    clear hst7 y1 HST7
    obtain ⟨i, hi, rfl, hst⟩ := hrel
    have z1 := hst.bl.cell
    have z2 := hst.bq.cell
    by_cases hlt : i < n
    · obtain ⟨g, rfl, hx, hf⟩ := own_elem hst.ol (by rw [turned_length]; exact HN.out) hlt
      rw [turned_get _ _ (by rw [HN.out]; exact hlt)] at hx
      have HSET := Lib.hid (hst.set i (wrap64 (xs.getD i 0 + 1)))
      have hts : (turned (fun x => wrap64 (x + 1)) xs i).set i (wrap64 (xs.getD i 0 + 1)) = turned (fun x => wrap64 (x + 1)) xs (i + 1) := turned_set _ _ (by rw [HN.out]; exact hlt)
      have HTS := Lib.hid hts
      obtain ⟨x, hxx⟩ : ∃ x, xs.getD i 0 = x := ⟨_, rfl⟩
      rw [hxx] at hx HSET
      have HXX := Lib.hid hxx
      clear hst hts hxx
      go_wp2_with fail
      go_roundg (n - (i + 1))
      case measure => omega
      case rel =>
        refine ⟨i + 1, by omega, by go_num, ?_⟩
        rw [← HTS.out, HXX.out]
        exact HSET.out
    · have hin : i = n := by omega
      subst hin
      obtain ⟨c, hc⟩ : ∃ c, count a1 xs.length = c := ⟨_, rfl⟩
      have hcn : c ≤ i := by have := count_le a1 xs.length; have := HN.out; omega
      have HC := Lib.hid hc
      have HST := Lib.hid hst
      clear hst hc
      go_wp2_with fail
      refine (q_peek_at HST.out.q a1 c _ HC.out rfl).mono ?_
      rintro e w8 ⟨sp, sc, rfl, hp, _, hb8⟩
      have hpl : (xs.take c).length = c := by have := hp.1; simpa using this
      have hp8 : OwnInts w8 wr.heap.size (.slice sp c sc) (xs.take c) := by unfold OwnInts; rw [hpl]; exact hp
      have HP8 := Lib.hid hp8
      have HPL := Lib.hid hpl
      have HB8 := Lib.hid hb8
      clear hp hb8 hp8 hpl
      go_wp2_with fail
      have HNX : Hid (∀ wx : World, (∃ ps : List Int, OwnInts wx wr.heap.size (.slice sp c sc) ps ∧ ps.length = c) ∧ Below wr.heap.size wr wx → St w wx Bl Bq Bw b F7 (turned (fun x => wrap64 (x + 1)) xs i) xs xs (.slice sl i cl) (.slice sp5 l5 sc5)) := fun wx h => HST.out.below h.2
      obtain ⟨N, hN⟩ : ∃ N, wr.heap.size = N := ⟨_, rfl⟩
      have hat : (∃ ps : List Int, OwnInts w8 N (.slice sp c sc) ps ∧ ps.length = c) ∧ Below N wr w8 := by rw [← hN]; exact ⟨⟨_, HP8.out, HPL.out⟩, HB8.out⟩
      rw [hN] at HNX
      go_loopg [60] c (fun g v60 wx => ∃ j : Nat, j + g = c ∧ v60 = .int .i64 j ∧ (∃ ps : List Int, OwnInts wx N (.slice sp c sc) ps ∧ ps.length = c) ∧ Below N wr wx)
      case atStart => exact ⟨0, by omega, rfl, hat⟩
      case round =>
        clear hat
        obtain ⟨j, hj, rfl, ⟨ps, hps, hpl⟩, hbx⟩ := hrel
        by_cases hjc : j < c
        · obtain ⟨g, rfl, hx, hf⟩ := own_elem hps hpl hjc
          have hgN := (hps.lt g rfl).1
          obtain ⟨x, hxx⟩ : ∃ x, ps.getD j 0 = x := ⟨_, rfl⟩
          rw [hxx] at hx
          have HPS := Lib.hid hps
          have HBX := Lib.hid hbx
          have HPL := Lib.hid hpl
          clear hps hbx hpl hxx
          go_wp2_with fail
          go_roundg (c - (j + 1))
          case measure => omega
          case rel => exact ⟨j + 1, by omega, by go_num, ⟨_, own_set HPS.out j _, by rw [List.length_set]; exact HPL.out⟩, HBX.out.setCell hgN _⟩
        · have hjn : j = c := by omega
          subst hjn
          have hst := HNX.out _ ⟨⟨ps, hps, hpl⟩, hbx⟩
          clear HNX hps hbx hpl HST HP8 HB8
          go_upto_region 20 with fail
          obtain ⟨W9, hW9⟩ : ∃ W9, wr.alloc (.cells #[.int .i64 0] 3) = W9 := ⟨_, rfl⟩
          obtain ⟨Bi, hBi⟩ : ∃ Bi, wr.heap.size = Bi := ⟨_, rfl⟩
          have hfr := hst.fresh
          rw [hBi] at hfr
          obtain ⟨fr1, fr2, fr3⟩ := hfr
          have FR3 := Lib.hid fr3
          have FR1 := Lib.hid fr1
          clear fr1 fr3
          have hst9 := hst.alloc (.cells #[.int .i64 0] 3)
          have hbi : Boxed W9 Bi 3 (.int .i64 0) := by rw [← hW9, ← hBi]; exact Boxed.new _ _ _
          rw [hW9] at hst9
          have z9 := hst9.bq.cell
          have HST9 := Lib.hid hst9
          have HBI := Lib.hid hbi
          rw [hW9, hBi]
          clear hst hst9 hbi z2 hW9 hBi hN
          go_wp2_with fail
          refine (all_q HST9.out.q).mono ?_
          rintro e W0 ⟨bx, sq, sd, rfl, hbx, hrow0, hb0, hge⟩
          have hbxl : bx < W0.heap.size := World.block_lt_of_cell? W0 _ hbx
          obtain ⟨gp, hgp⟩ : ∃ gp, rowOf bx (.slice sq xs.length sd) = gp := ⟨_, rfl⟩
          have hgl : gp < W0.heap.size := by rw [← hgp]; exact rowOf_lt hrow0 hbxl
          have hgg : W9.heap.size ≤ gp := by rw [← hgp]; exact rowOf_ge hrow0 hge
          have hBi9 : Bi < W9.heap.size := HBI.out.lt
          have hmd : Md w Bl Bq Bw Bi b gp xs (turned (fun x => wrap64 (x + 1)) xs i) (.slice sl i cl) (.slice sp5 l5 sc5) W0 F7 xs 0 :=
            ⟨HST9.out.below hb0, boxed_below HBI.out hb0 (Nat.le_refl _), FR1.out, fun hm => by have := HST9.out.q.lt _ hm; omega, hgl, by omega, fr2, FR3.out⟩
          go_wp2_with fail
          refine (wpIn_wide (n := 3)).1 ?_
          refine range_ownG (q := 12) rfl (by decide) (gf := 38) (lb := #[.pointer (some ⟨bx, 0, none⟩)]) rfl trivial (enters_of Try.func38 (by kernel_rfl) rfl)
            (values_stops .wide 2 trivial rfl (by decide) bx _ sd sq xs (by have := HN.out; omega) W0 hbxl hbx hrow0) (fun h k => h.trans k) (atB_b (by rw [hgp]; exact hgl)) (Below.refl _ _)
            (Lp w Bl Bq Bw Bi b gp xs (turned (fun x => wrap64 (x + 1)) xs i) (.slice sl i cl) (.slice sp5 l5 sc5)) (fun p => ¬ p <+: xs) (fun _ h k => k h) (Lp.own (by omega))
            ⟨List.nil_prefix, F7, hmd⟩ ?assign ?body ?done
          case assign =>
            intro l x W K hK
            simp only [inRoundAct, List.setIfInBounds_toArray, List.set_cons_zero, List.set_cons_succ] at hK ⊢
            gi_wp2
            exact hK
          case body =>
            rintro l pre x W ⟨hpre, F, hmd⟩ hlt
            simp only [inRoundAct, List.setIfInBounds_toArray, List.set_cons_zero, List.set_cons_succ]
            obtain ⟨m, hm⟩ : ∃ m, pre.length = m := ⟨_, rfl⟩
            rw [hm] at hmd hlt
            have hl5 : l5 = xs.length := by
              obtain ⟨_, _, e⟩ := hmd.st.ow.form
              have := congrArg (fun v => match v with | Value.slice _ n _ => n | _ => 0) e
              simpa using this
            have hlt2 : m < i := by have := HN.out; omega
            have hl5i : l5 = i := by rw [hl5]; exact HN.out
            obtain ⟨g5, hg5, hx5, _⟩ := own_elem hmd.st.ow (by rw [hl5]) (by rw [hl5]; exact hlt)
            subst hg5
            have y1 := hmd.st.bl.cell
            have y2 := hmd.st.bq.cell
            have y3 := hmd.st.bw.cell
            have y4 := hmd.bi.cell
            have y5 := hmd.bi.frozen
            have y6 := hmd.st.br.cell
            have y7 := hmd.st.br.frozen
            rw [hl5i] at y3 hmd
            have hm1 : ¬ ((i : Int) ≤ m) := by omega
            have HMD := Lib.hid hmd
            obtain ⟨y, hy⟩ : ∃ y, xs.getD m 0 = y := ⟨_, rfl⟩
            rw [hy] at hx5
            have HY := Lib.hid hy
            have HPRE := Lib.hid hpre
            have HM := Lib.hid hm
            clear hmd hl5 hlt hy hpre hm
            by_cases hxy : x = y
            · subst hxy
              have hxx : (x == x) = true := by simp
              by_cases h0m : m = 0
              · subst h0m
                have hmd0 := HMD.out
                rw [if_pos rfl] at hmd0
                have HMD0 := Lib.hid hmd0
                clear hmd0
                have hlt0 : (turned (fun x => wrap64 (x + 1)) xs i).length = i := by rw [turned_length]; exact HN.out
                have HLT := Lib.hid hlt0
                have hct : count (i : Int) xs.length = i := by unfold count; have := HN.out; omega
                have HCT := Lib.hid hct
                have htk : took i ([] : List Int).length 60 false = i := by simp [took]; omega
                have HTK := Lib.hid htk
                clear hlt0 hct htk
                gi_wp2_with fail
                refine ⟨trivial, ?_⟩
                refine (CallsIn.inRound l (callsIn_wide.2 (q_take_at HMD0.out.st.q i i xs [] HCT.out (by have := HN.out; rw [← this, List.take_length]) (by have := HN.out; rw [← this, List.drop_length])))).mono ?_
                rintro e W1 ⟨spx, scx, rfl, _, hq1, hk1⟩
                obtain ⟨hmd1, hA1, hK1⟩ := HMD0.out.keeps hk1 hq1 (fun x hx => .inl hx)
                have a1 := hmd1.st.bl.cell
                have a2 := hmd1.st.bq.cell
                have HMD1 := Lib.hid hmd1
                have HA1 := Lib.hid hA1
                have HK1 := Lib.hid hK1
                clear hmd1 hA1 hK1 hq1 hk1 y1 y2 y3 y4 y5 y6 y7
                gi_wp2_with fail
                refine ⟨trivial, ?_⟩
                refine (CallsIn.inRound l (callsIn_wide.2 (q_put_at HMD1.out.st.q sl i cl (HMD1.out.st.given HLT.out) i (turned (fun x => wrap64 (x + 1)) xs i) HTK.out (by rw [List.nil_append, List.take_of_length_le (by rw [HLT.out]; exact Nat.le_refl _)])))).mono ?_
                rintro e W2 ⟨rfl, F2, hq2, hk2, hs2⟩
                obtain ⟨hmd2, hA2, hK2⟩ := HMD1.out.keeps hk2 hq2 hs2
                have b4 := hmd2.bi.cell
                have b5 := hmd2.bi.frozen
                have HMD2 := Lib.hid hmd2
                have HA2 := Lib.hid hA2
                have HK2 := Lib.hid hK2
                clear hmd2 hA2 hK2 hq2 hk2 hs2 a1 a2
                gi_wp2_with fail
                have hfin := md_next (B := W0.heap.size) HMD2.out HPRE.out HM.out HY.out (by have := HN.out; omega) (HA1.out.trans HA2.out) (HK1.out.trans HK2.out)
                rw [show ((0 : Nat) : Int) + 1 = 1 from rfl] at hfin
                rw [hgp, hl5i]
                exact hfin
              · have h0i : ¬ ((m : Int) = 0) := by omega
                have h0b : ((m : Int) == 0) = false := by simpa using h0m
                gi_wp2_with fail
                have hmd := HMD.out
                rw [if_neg h0m] at hmd
                exact md_next hmd HPRE.out HM.out HY.out (by have := HN.out; omega) rfl (KeepsOthers.refl _)
            · have hxx : (x == y) = false := by simpa using hxy
              gi_wp2_with fail
              exact ⟨by first | exact KeepsFrom.refl _ _ | exact (KeepsOthers.setCell _ _ _).from _, bad_prefix (by rw [HM.out, HY.out]; exact hxy)⟩
          case done =>
            rintro D ys W hD rfl ⟨_, F, hmd⟩ hK
            have hifs : (if ys.length = 0 then ys else turned (fun x => wrap64 (x + 1)) ys i) = turned (fun x => wrap64 (x + 1)) ys i := by
              split
              · rename_i h
                have : ys = [] := List.eq_nil_of_length_eq_zero h
                subst this
                simp [turned]
              · rfl
            rw [hifs] at hmd
            have HMD := Lib.hid hmd
            have HK := Lib.hid hK
            have HD := Lib.hid hD
            have hl5 : l5 = ys.length := by
              obtain ⟨_, _, e⟩ := hmd.st.ow.form
              have := congrArg (fun v => match v with | Value.slice _ n _ => n | _ => 0) e
              simpa using this
            have hl5i : l5 = i := by rw [hl5]; exact HN.out
            have hbi := hmd.bi
            rw [HN.out] at hbi
            have hst := hmd.st
            rw [hl5i] at hst
            have y1 := hst.bl.cell
            have y2 := hst.bq.cell
            have y3 := hst.bw.cell
            have y4 := hbi.cell
            have hbr1 := hst.br.cell
            have hbr2 := hst.br.frozen
            have HBI := Lib.hid hbi
            have HST := Lib.hid hst
            have hlt0 : (turned (fun x => wrap64 (x + 1)) ys i).length = i := by rw [turned_length]; exact HN.out
            have HLT := Lib.hid hlt0
            have him : i ≤ maxLen := by simp only [maxLen]; omega
            have hne : Bi ≠ Bl + 1 ∧ Bw ≠ Bl + 1 ∧ Bq ≠ Bl + 1 ∧ Bl ≠ Bl + 1 := by
              refine ⟨fun e => hmd.h6 (by simp [bs, e]), fun e => ?_, fun e => ?_, by omega⟩
              · have h1 := hst.bw
                rw [e] at h1
                have := h1.symm.trans hst.br
                simp at this
              · have h1 := hst.bq
                rw [e] at h1
                have := h1.symm.trans hst.br
                simp at this
            have SETS : Hid (∀ (wx : World), (wx.cell? ⟨Bi, 0, none⟩ = some (.int .i64 i) ∧ wx.cell? ⟨Bw, 0, none⟩ = some (.slice sp5 i sc5) ∧ wx.cell? ⟨Bq, 0, none⟩ = some (.pointer (some ⟨b, 0, none⟩)) ∧ wx.cell? ⟨Bl, 0, none⟩ = some (.slice sl i cl)) →
                ((wx.setCell ⟨Bl + 1, 0, none⟩ (.bool true)).cell? ⟨Bi, 0, none⟩ = some (.int .i64 i) ∧ (wx.setCell ⟨Bl + 1, 0, none⟩ (.bool true)).cell? ⟨Bw, 0, none⟩ = some (.slice sp5 i sc5) ∧ (wx.setCell ⟨Bl + 1, 0, none⟩ (.bool true)).cell? ⟨Bq, 0, none⟩ = some (.pointer (some ⟨b, 0, none⟩)) ∧ (wx.setCell ⟨Bl + 1, 0, none⟩ (.bool true)).cell? ⟨Bl, 0, none⟩ = some (.slice sl i cl))) :=
              fun wx h => ⟨(World.cell?_setCell_far _ _ _ _ (fun e => hne.1 e.symm)).trans h.1, (World.cell?_setCell_far _ _ _ _ (fun e => hne.2.1 e.symm)).trans h.2.1, (World.cell?_setCell_far _ _ _ _ (fun e => hne.2.2.1 e.symm)).trans h.2.2.1, (World.cell?_setCell_far _ _ _ _ (fun e => hne.2.2.2 e.symm)).trans h.2.2.2⟩
            clear hmd hK hD hifs hst hbi hl5 hlt0 hne
            go_wp2_with fail
            simp only [hl5i]
            refine wp_region_noPanic ?_
            refine wp_region_held_drew (S := fun w' => w'.cell? ⟨Bi, 0, none⟩ = some (.int .i64 i) ∧ w'.cell? ⟨Bw, 0, none⟩ = some (.slice sp5 i sc5) ∧ w'.cell? ⟨Bq, 0, none⟩ = some (.pointer (some ⟨b, 0, none⟩)) ∧ w'.cell? ⟨Bl, 0, none⟩ = some (.slice sl i cl)) (by kernel_rfl) (⟨y4, y3, y2, y1⟩) (fun hHeld => ?_)
            refine wpAnyH_take (i := 0) (oi := ⟨some 96, _, _, _, _, _⟩) (v := ?_) rfl (by kernel_rfl) (by kernel_rfl) (by kernel_rfl) (fun _ _ _ h => h) (Or.inl ⟨by rfl, ?_⟩) hHeld ?_
            rotate_left
            · intro w hSw; (try dsimp only at hSw); go_simp; try with_reducible rfl
            try simp only [Act.put, List.setIfInBounds_toArray, List.set_cons_zero, List.set_cons_succ]
            refine wpAnyH_take (i := 1) (oi := ⟨some 97, _, _, _, _, _⟩) (v := ?_) rfl (by kernel_rfl) (by kernel_rfl) (by kernel_rfl) (fun _ _ _ h => h) (Or.inl ⟨by rfl, ?_⟩) hHeld ?_
            rotate_left
            · intro w hSw; (try dsimp only at hSw); go_simp; try with_reducible rfl
            try simp only [Act.put, List.setIfInBounds_toArray, List.set_cons_zero, List.set_cons_succ]
            refine wpAnyH_take (i := 2) (oi := ⟨some 98, _, _, _, _, _⟩) (v := ?_) rfl (by kernel_rfl) (by kernel_rfl) (by kernel_rfl) (fun _ _ _ h => h) (Or.inl ⟨by rfl, ?_⟩) hHeld ?_
            rotate_left
            · intro w hSw; (try dsimp only at hSw); go_simp; try with_reducible rfl
            try simp only [Act.put, List.setIfInBounds_toArray, List.set_cons_zero, List.set_cons_succ]
            refine wpAnyH_take (i := 3) (oi := ⟨some 99, _, _, _, _, _⟩) (v := ?_) rfl (by kernel_rfl) (by kernel_rfl) (by kernel_rfl) (fun _ _ _ h => h) (Or.inl ⟨by rfl, ?_⟩) hHeld ?_
            rotate_left
            · intro w hSw; (try dsimp only at hSw); go_simp; try with_reducible rfl
            try simp only [Act.put, List.setIfInBounds_toArray, List.set_cons_zero, List.set_cons_succ]
            refine wpAnyH_take (i := 4) (oi := ⟨some 100, _, _, _, _, _⟩) (v := ?_) rfl (by kernel_rfl) (by kernel_rfl) (by kernel_rfl) (fun _ _ _ h => h) (Or.inl ⟨by rfl, ?_⟩) hHeld ?_
            rotate_left
            · intro w hSw; (try dsimp only at hSw); go_simp; try with_reducible rfl
            try simp only [Act.put, List.setIfInBounds_toArray, List.set_cons_zero, List.set_cons_succ]
            refine wpAnyH_take (i := 5) (oi := ⟨some 101, _, _, _, _, _⟩) (v := ?_) rfl (by kernel_rfl) (by kernel_rfl) (by kernel_rfl) (fun _ _ _ h => h) (Or.inl ⟨by rfl, ?_⟩) hHeld ?_
            rotate_left
            · intro w hSw; (try dsimp only at hSw); go_simp; try with_reducible rfl
            try simp only [Act.put, List.setIfInBounds_toArray, List.set_cons_zero, List.set_cons_succ]
            refine wpAnyH_take (i := 7) (oi := ⟨some 103, _, _, _, _, _⟩) (v := ?_) rfl (by kernel_rfl) (by kernel_rfl) (by kernel_rfl) (fun _ _ _ h => h) (Or.inl ⟨by rfl, ?_⟩) hHeld ?_
            rotate_left
            · intro w hSw; (try dsimp only at hSw); go_simp; try with_reducible rfl
            try simp only [Act.put, List.setIfInBounds_toArray, List.set_cons_zero, List.set_cons_succ]
            refine wpAnyH_ready (rs := [6]) (by kernel_rfl) (by simp) (AllReadyH.cons (o := ⟨some 102, _, _, _, _, _⟩) rfl (fun K hK => ?_) AllReadyH.nil)
            go_simp
            refine (coll_q (HST.out.drewN 1).q).mono ?_; rintro e W6 ⟨sp6, sc6, rfl, hown6, hb6, _⟩; rw [HLT.out] at hown6 ⊢; have hst6 := (HST.out.drewN 1).below hb6; have z1 := hst6.bl.cell; have z2 := hst6.bq.cell; have z3 := hst6.bw.cell; have z4 := (boxed_below (show Boxed (W.drewN 1) Bi 3 (.int .i64 i) from HBI.out) hb6 (Nat.le_refl _)).cell; have HX := Lib.hid (ints_of_own hown6); have HK6 : Hid (W6.heap[D]? = some (.deferred (some []))) := (hb6.block D (Array.getElem?_eq_some_iff.1 HK.out).1).trans HK.out; have HST6 := Lib.hid hst6; clear hst6 hown6 hb6
            refine hK.out _ _ (⟨z4, z3, z2, z1⟩) (fun hHeld => ?_)
            clear hK K
            try simp only [Act.put, List.setIfInBounds_toArray, List.set_cons_zero, List.set_cons_succ]
            refine wpAnyH_ready (rs := [8]) (by kernel_rfl) (by simp) (AllReadyH.cons (o := ⟨some 104, _, _, _, _, _⟩) rfl (fun K hK => ?_) AllReadyH.nil)
            go_simp
            refine (same_any sp6 sl i i sc6 cl _ _ _ HX.out (St.given HST6.out HLT.out).ints him him).mono ?_; rintro e W7 ⟨rfl, k7, rfl⟩; rw [decide_eq_true rfl]; have u1 : (W6.drewN k7).cell? ⟨Bl + 1, 0, none⟩ = some (.bool false) := HST6.out.br.cell; have u2 : (W6.drewN k7).frozen? ⟨Bl + 1, 0, none⟩ = false := HST6.out.br.frozen
            refine hK.out _ _ (⟨z4, z3, z2, z1⟩) (fun hHeld => ?_)
            clear hK K
            try simp only [Act.put, List.setIfInBounds_toArray, List.set_cons_zero, List.set_cons_succ]
            refine wpAnyH_take (i := 9) (oi := ⟨some 105, _, _, _, _, _⟩) (v := ?_) rfl (by kernel_rfl) (by kernel_rfl) (by kernel_rfl) (fun _ _ _ h => h) (Or.inl ⟨by rfl, ?_⟩) hHeld ?_
            rotate_left
            · intro w hSw; (try dsimp only at hSw); go_simp; try with_reducible rfl
            try simp only [Act.put, List.setIfInBounds_toArray, List.set_cons_zero, List.set_cons_succ]
            refine wpAnyH_ready (rs := [10]) (by kernel_rfl) (by simp) (AllReadyH.cons (o := ⟨none, _, _, _, _, _⟩) rfl (fun K hK => ?_) AllReadyH.nil)
            go_simp
            refine hK.out _ _ ((SETS.out _ ⟨z4, z3, z2, z1⟩)) (fun hHeld => ?_)
            clear hK K
            try simp only [Act.put, List.setIfInBounds_toArray, List.set_cons_zero, List.set_cons_succ]
            refine wpAnyH_done (by kernel_rfl) ?_ _
            refine NoPanic.normal ?_
            have hnd : D ≠ Bl + 1 := fun e => by
              have h1 := HK6.out
              rw [e] at h1
              have := h1.symm.trans HST6.out.br
              simp at this
            have HKF : ((W6.drewN k7).setCell ⟨Bl + 1, 0, none⟩ (.bool true)).heap[D]? = some (.deferred (some [])) := (heap_setCell_other _ _ _ _ hnd).trans HK6.out
            have hres : ((W6.drewN k7).setCell ⟨Bl + 1, 0, none⟩ (.bool true)).cell? ⟨Bl + 1, 0, none⟩ = some (.bool true) := by
              have h0 : Boxed (W6.drewN k7) (Bl + 1) 4 (.bool false) := HST6.out.br
              exact (h0.set (.bool true)).cell
            have hres2 : (((W6.drewN k7).setCell ⟨Bl + 1, 0, none⟩ (.bool true)).putObj D (.deferred none)).cell? ⟨Bl + 1, 0, none⟩ = some (.bool true) := by
              refine Eq.trans ?_ hres
              exact cell_putObj_other _ _ _ _ hnd
            have HB6 : Below Bl w ((W6.drewN k7).setCell ⟨Bl + 1, 0, none⟩ (.bool true)) := (below_drewN HST6.out.bel k7).setCell (by show Bl ≤ Bl + 1; omega) _
            have hDB : Bl ≤ D := by have := HD.out; have := hmd.st.sz; omega
            clear hHeld
            go_wp2_with fail
            refine ⟨by simp, .inl ⟨_, _, rfl, run_takeDeferred HKF, ?_⟩⟩
            refine ⟨_, results_cellb rfl _ _ _ rfl hres2, rfl, ?_⟩
            rw [hBl]
            exact HB6.trans (belowK_b (w := w) (Nat.le_of_eq hBl.symm) _ D _ _ (by omega) HKF rfl rfl)
end Go.Proofs.Ythpdphbppapkhaa.queueOwn
