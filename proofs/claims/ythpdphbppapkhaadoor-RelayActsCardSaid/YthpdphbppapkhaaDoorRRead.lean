/-
  The walk of the reference relay's read. Condition: the notes are as Notes says; what waits are bytes.
-/
import Derived.Test.YthpdphbppapkhaaDoorRBase
namespace Go.Proofs.YthpdphbppapkhaaDoor
open Go.RowKit qb

set_option maxRecDepth 100000 in
set_option maxHeartbeats 16000000 in
theorem rr_read {w : World} {r : Nat} {m : Bool → Nat} {N : Nat} {s : RS} {H : List Nat} (h : RRel w r m N s H) (hn : Notes s) (d : Bool) (side : Int) (hside : sd d = side) (n t : Int) (hu : ∀ z, z ∈ (s.l d).x d → U8 z) (hx : ((s.l d).x d).length ≤ 100) (hwl : (s.w d).length ≤ 100) :
    Calls Tryd.prog 57 #[.pointer (some ⟨r, 0, none⟩), .int .i64 side, .int .i64 n, .int .i64 t] w fun e w' => e = .returned (.bool (readS s d n t).2) ∧ RGo w w' r m N H (readS s d n t).1 := by
  obtain ⟨ts, Fs, v, vE, vT, evl, Q, col, rfl, h, ht⟩ := h
  obtain ⟨pu, hpu⟩ : ∃ p, m true = p := ⟨_, rfl⟩
  obtain ⟨pc, hpc⟩ : ∃ p, m false = p := ⟨_, rfl⟩
  obtain ⟨p, hp⟩ : ∃ p, m d = p := ⟨_, rfl⟩
  have c0 : w.cell? ⟨r, 0, none⟩ = some (.pointer (some ⟨pu, 0, none⟩)) := by rw [← hpu]; exact h.cells 0
  have c1 : w.cell? ⟨r, 1, none⟩ = some (.pointer (some ⟨pc, 0, none⟩)) := by rw [← hpc]; exact h.cells 1
  obtain ⟨o0, ho0⟩ : ∃ o, s.o false = o := ⟨_, rfl⟩
  obtain ⟨o1, ho1⟩ : ∃ o, s.o true = o := ⟨_, rfl⟩
  have c3 : w.cell? ⟨r, 3, none⟩ = some (.bool o0) := by rw [← ho0]; exact h.cells 3
  have c4 : w.cell? ⟨r, 4, none⟩ = some (.bool o1) := by rw [← ho1]; exact h.cells 4
  obtain ⟨ka, hka⟩ : ∃ k, (s.w false).length = k := ⟨_, rfl⟩
  obtain ⟨kb, hkb⟩ : ∃ k, (s.w true).length = k := ⟨_, rfl⟩
  obtain ⟨xa, xc, hva, _, _⟩ := (h.hw false).form
  obtain ⟨ya, yc, hvb, _, _⟩ := (h.hw true).form
  rw [hka] at hva
  rw [hkb] at hvb
  have c5 : w.cell? ⟨r, 5, none⟩ = some (.slice xa ka xc) := by rw [← hva]; exact h.cells 5
  have c6 : w.cell? ⟨r, 6, none⟩ = some (.slice ya kb yc) := by rw [← hvb]; exact h.cells 6
  obtain ⟨ne, hne⟩ : ∃ k, s.evs.length = k := ⟨_, rfl⟩
  have hnl : ne ≤ 4096 := by rw [← hne]; exact hn.len
  obtain ⟨sp, sc, hve, hnsc, hscm, _⟩ := h.shown hn.len
  rw [hne] at hve hnsc
  unfold maxLen at hscm
  have c2 : w.cell? ⟨r, 2, none⟩ = some (.slice sp ne sc) := by rw [← hve]; exact h.cells 2
  have HA := Lib.hid h
  have HT0 := Lib.hid ht
  have HNO := Lib.hid hn
  have HU : Hid _ := hu
  have HP := Lib.hid hp
  have HPU := Lib.hid hpu
  have HPC := Lib.hid hpc
  have HVE := Lib.hid hve
  have HNE := Lib.hid hne
  have HX := Lib.hid hx
  obtain ⟨cb, hcb⟩ : ∃ cb, decide (cannot s d n) = cb := ⟨_, rfl⟩
  have hcn : cannot s d n ↔ (0 < (if d then kb else ka) ∨ (if d then o1 else o0) = true ∨ o0 = true ∨ n < 1 ∨ ne = 4096) := by
    unfold cannot
    rw [← hka, ← hkb, ← ho0, ← ho1, ← hne]
    cases d <;> simp
  have HCB := Lib.hid hcb
  obtain ⟨rs, hrs⟩ : ∃ rs, readS s d n t = rs := ⟨_, rfl⟩
  rw [hrs]
  have HRS := Lib.hid hrs
  clear hrs
  have HSIDE := Lib.hid hside
  have hka1 : ka ≤ maxLen ∧ kb ≤ maxLen := by
    obtain ⟨_, _, e1, h1, h2⟩ := (h.hw false).form
    obtain ⟨_, _, e2, h3, h4⟩ := (h.hw true).form
    omega
  unfold maxLen at hka1
  obtain ⟨hka2, hkb2⟩ := hka1
  have HPP : Hid (p = if d then pu else pc) := by show _ = _; rw [← hp, ← hpu, ← hpc]; cases d <;> rfl
  obtain ⟨i0, hi0, hy0, hy1, hy2⟩ := info_parts infoE7
  obtain ⟨iT, hiT, hq0, hq1, hq2⟩ := info_parts infoT
  clear h ht hn hu hpu hpc hp ho0 ho1 hka hkb hva hvb hve hne hx hcb hside hwl
  go_enter Tryd.func57, Tryd.ntmps57
  go_upto_if 18 with fail
  go_cut [9, 10] (fun v9 v10 w' => v9 = .pointer (some ⟨p, 0, none⟩) ∧ v10 = .int .i64 side ∧ w = w')
  case first =>
    have hs := HSIDE.out
    have hpp := HPP.out
    cases d
    · simp only [sd, Bool.false_eq_true, if_false] at hs hpp
      subst hs
      subst hpp
      go_wp2_with fail
      go_meet
      exact ⟨rfl, rfl, rfl⟩
    · simp only [sd, if_true] at hs hpp
      subst hs
      subst hpp
      go_wp2_with fail
      go_meet
      exact ⟨rfl, rfl, rfl⟩
  case rest =>
  obtain ⟨rfl, rfl, rfl⟩ := hcut
  go_upto_region 6 with fail
  go_cut [58] (fun v58 w' => v58 = .bool cb ∧ w = w')
  case first =>
    have hs := HSIDE.out
    clear HPP
    cases d <;> simp only [sd, Bool.false_eq_true, if_false, if_true] at hs hcn <;> subst hs <;> have HCN := Lib.hid hcn <;> clear hcn
    · by_cases h1 : 0 < ka
      · go_wp2_with fail
        go_meet
        have hf : cb = true := by rw [← HCB.out]; exact decide_eq_true (HCN.out.2 (.inl (by omega)))
        refine ⟨?_, rfl⟩
        rw [hf]
        try first | rfl | exact congrArg Value.bool (decide_eq_true (by omega))
      · cases o0
        · by_cases h2 : n < 1
          · go_wp2_with fail
            go_meet
            have hf : cb = true := by rw [← HCB.out]; exact decide_eq_true (HCN.out.2 (.inr (.inr (.inr (.inl (by omega))))))
            refine ⟨?_, rfl⟩
            rw [hf]
            try first | rfl | exact congrArg Value.bool (decide_eq_true (by omega))
          · by_cases h3 : ne = 4096
            · have h3' : 4096 ≤ ne := by omega
              go_wp2_with fail
              go_meet
              have hf : cb = true := by rw [← HCB.out]; exact decide_eq_true (HCN.out.2 (.inr (.inr (.inr (.inr (by omega))))))
              refine ⟨?_, rfl⟩
              rw [hf]
              try first | rfl | exact congrArg Value.bool (decide_eq_true (by omega))
            · have h3' : ¬ 4096 ≤ ne := by omega
              go_wp2_with fail
              go_meet
              have hf : cb = false := by rw [← HCB.out]; exact decide_eq_false (fun hcc => by rcases HCN.out.1 hcc with h | h | h | h | h <;> first | omega | cases h)
              refine ⟨?_, rfl⟩
              rw [hf]
              try first | rfl | exact congrArg Value.bool (decide_eq_false (by omega))
        · go_wp2_with fail
          go_meet
          have hf : cb = true := by rw [← HCB.out]; exact decide_eq_true (HCN.out.2 (.inr (.inl (by first | trivial | rfl))))
          refine ⟨?_, rfl⟩
          rw [hf]
          try first | rfl | exact congrArg Value.bool (decide_eq_true (by omega))
    · by_cases h1 : 0 < kb
      · go_wp2_with fail
        go_meet
        have hf : cb = true := by rw [← HCB.out]; exact decide_eq_true (HCN.out.2 (.inl (by omega)))
        refine ⟨?_, rfl⟩
        rw [hf]
        try first | rfl | exact congrArg Value.bool (decide_eq_true (by omega))
      · cases o0
        · cases o1
          · by_cases h2 : n < 1
            · go_wp2_with fail
              go_meet
              have hf : cb = true := by rw [← HCB.out]; exact decide_eq_true (HCN.out.2 (.inr (.inr (.inr (.inl (by omega))))))
              refine ⟨?_, rfl⟩
              rw [hf]
              try first | rfl | exact congrArg Value.bool (decide_eq_true (by omega))
            · by_cases h3 : ne = 4096
              · have h3' : 4096 ≤ ne := by omega
                go_wp2_with fail
                go_meet
                have hf : cb = true := by rw [← HCB.out]; exact decide_eq_true (HCN.out.2 (.inr (.inr (.inr (.inr (by omega))))))
                refine ⟨?_, rfl⟩
                rw [hf]
                try first | rfl | exact congrArg Value.bool (decide_eq_true (by omega))
              · have h3' : ¬ 4096 ≤ ne := by omega
                go_wp2_with fail
                go_meet
                have hf : cb = false := by rw [← HCB.out]; exact decide_eq_false (fun hcc => by rcases HCN.out.1 hcc with h | h | h | h | h <;> first | omega | cases h)
                refine ⟨?_, rfl⟩
                rw [hf]
                try first | rfl | exact congrArg Value.bool (decide_eq_false (by omega))
          · go_wp2_with fail
            go_meet
            have hf : cb = true := by rw [← HCB.out]; exact decide_eq_true (HCN.out.2 (.inr (.inl (by first | trivial | rfl))))
            refine ⟨?_, rfl⟩
            rw [hf]
            try first | rfl | exact congrArg Value.bool (decide_eq_true (by omega))
        · go_wp2_with fail
          go_meet
          have hf : cb = true := by rw [← HCB.out]; exact decide_eq_true (HCN.out.2 (.inr (.inr (.inl (by first | trivial | rfl)))))
          refine ⟨?_, rfl⟩
          rw [hf]
          try first | rfl | exact congrArg Value.bool (decide_eq_true (by omega))
  case rest =>
  obtain ⟨rfl, rfl⟩ := hcut
  clear c0 c1 c3 c4 c5 c6 hcn hka2 hkb2
  cases cb with
  | true =>
    have hc := of_decide_eq_true HCB.out
    have e : readS s d n t = (s, false) := by unfold readS; rw [if_pos hc]
    have FIN : Hid (RGo w w r m N (RH Fs r vE vT Q) s) := ⟨_, ⟨ts, Fs, v, vE, vT, evl, Q, col, rfl, HA.out, HT0.out⟩, Gr.refl _ _⟩
    obtain rfl : rs = (s, false) := by rw [← HRS.out, e]
    go_wp2_with fail
    go_ret
    exact ⟨rfl, FIN.out⟩
  | false =>
    have hc := of_decide_eq_false HCB.out
    have HC : Hid _ := hc
    go_wp2_with fail
    refine Calls.mono (rr_room HA.out HNO.out n) ?_
    rintro e w1 ⟨rfl, hb1⟩
    obtain ⟨A, hA⟩ : ∃ A, min (min n s.left) 65536 = A := ⟨_, rfl⟩
    rw [hA]
    have HR1 := Lib.hid (HA.out.below hb1)
    have HB1 := Lib.hid hb1
    have HAA := Lib.hid hA
    clear hb1 hA hc
    go_wp2_with fail
    have HRD := Lib.hid (ref_read (HR1.out.hl d) d side HSIDE.out A ((s.l d).x d) ((s.l d).e d) rfl rfl HU.out)
    rw [HP.out] at HRD
    refine Calls.mono HRD.out ?_
    obtain ⟨k, hk⟩ : ∃ k, count A ((s.l d).x d).length = k := ⟨_, rfl⟩
    have hkn : readN s d n = k := by rw [← hk, ← HAA.out]; unfold readN count; omega
    have hkx : k ≤ 100 := by rw [← hk]; exact Nat.le_trans (count_le _ _) HX.out
    have hkl : k ≤ ((s.l d).x d).length := by rw [← hk]; exact count_le _ _
    rw [hk]
    rintro e w2 ⟨ba, bc, rfl, hown2, F2, hp2, hk2, hs2⟩
    rw [← HP.out] at hp2
    obtain ⟨⟨col2, hR2⟩, hg2⟩ := HR1.out.line d hp2 hk2 hs2 (Value.slice ba k bc).ownBlock.toList (fun x hx => ⟨(row_lt hown2 x hx).1, (row_lt hown2 x hx).2, by
      obtain ⟨cs, hcs⟩ := own5_cells hown2 x hx
      exact hp2.not5 hcs⟩)
    have hg2' : Gr w w2 (RH Fs r vE vT Q) _ := (Gr.below HB1.out).trans hg2
    have HKN := Lib.hid hkn
    have HKL := Lib.hid hkl
    have HG2 := Lib.hid hg2'
    have HR2 := Lib.hid hR2
    have HS2 := Lib.hid ((Slc.of_own hown2).mono (Q' := Q ++ (Value.slice ba k bc).ownBlock.toList) (fun x hx => List.mem_append.2 (.inr hx)))
    clear hown2 hp2 hk2 hs2 hR2 hg2 hg2' HRD HR1 hk hkn hkl HAA
    by_cases hk0 : k = 0
    · subst hk0
      have e0 : upd s.l d ((s.l d).set d (((s.l d).x d).drop 0) ((s.l d).e d)) = s.l := by rw [List.drop_zero, set_self, upd_self]
      obtain ⟨Fs3, hFs3⟩ : ∃ F, upd Fs d F2 = F := ⟨_, rfl⟩
      obtain ⟨Q3, hQ3⟩ : ∃ Q3, Q ++ (Value.slice ba 0 bc).ownBlock.toList = Q3 := ⟨_, rfl⟩
      have hR3 : RR w2 r m N s ts Fs3 v vE vT evl Q3 col2 := by rw [← hFs3, ← hQ3]; exact HR2.out.same e0.symm rfl rfl rfl
      have HR3 := Lib.hid hR3
      have HG3 : Hid (Gr w w2 (RH Fs r vE vT Q) (RH Fs3 r vE vT Q3)) := by show Gr _ _ _ _; rw [← hFs3, ← hQ3]; exact HG2.out
      obtain ⟨o, ho⟩ : ∃ o, isOver s d = o := ⟨_, rfl⟩
      have HOV := Lib.hid ho
      have HOC := Lib.hid (ref_over (hR3.hl d) d side HSIDE.out o ho)
      rw [HP.out] at HOC
      have c0 : w2.cell? ⟨r, 0, none⟩ = some (.pointer (some ⟨pu, 0, none⟩)) := by rw [← HPU.out]; exact hR3.cells 0
      have c1 : w2.cell? ⟨r, 1, none⟩ = some (.pointer (some ⟨pc, 0, none⟩)) := by rw [← HPC.out]; exact hR3.cells 1
      have c3 : w2.cell? ⟨r, 3, none⟩ = some (.bool (s.o false)) := hR3.cells 3
      have c4 : w2.cell? ⟨r, 4, none⟩ = some (.bool (s.o true)) := hR3.cells 4
      have f3 : w2.frozen? ⟨r, 3, none⟩ = false := hR3.frozen 3
      have f4 : w2.frozen? ⟨r, 4, none⟩ = false := hR3.frozen 4
      generalize s.o false = oo0 at c3
      generalize s.o true = oo1 at c4
      clear e0 hFs3 hQ3 HR2 HS2 HG2 hR3 ho
      go_wp2_with fail
      refine Calls.mono HOC.out ?_
      rintro e w3 ⟨rfl, rfl⟩
      cases o with
      | false =>
        have e : readS s d n t = (s, false) := by unfold readS; rw [if_neg HC.out, HKN.out, if_neg (by omega), HOV.out]; rfl
        obtain rfl : rs = (s, false) := by rw [← HRS.out, e]
        have FIN : Hid (RGo w w2 r m N (RH Fs r vE vT Q) s) := ⟨_, ⟨ts, Fs3, v, vE, vT, evl, Q3, col2, rfl, HR3.out, HT0.out⟩, HG3.out⟩
        clear e
        go_wp2_with fail
        go_ret
        exact ⟨rfl, FIN.out⟩
      | true =>
        have e : readS s d n t = (hung s d, true) := by unfold readS; rw [if_neg HC.out, HKN.out, if_neg (by omega), HOV.out]; rfl
        obtain rfl : rs = (hung s d, true) := by rw [← HRS.out, e]
        clear e
        have hend := HR3.out.over d
        obtain ⟨q, d0, df, d2, G', hp5, hk5, hs5⟩ := ref_end7 (hend.hl (!d)) d
        obtain ⟨⟨col5, hR5⟩, hg5⟩ := hend.line (!d) hp5 hk5 hs5 [] (fun _ h => by cases h)
        have FIN : Hid (∀ w3, w2.setCell ⟨r, if d then 4 else 3, none⟩ (.bool true) = w3 → RGo w (w3.setCell ⟨q, 2, none⟩ (.bool true)) r m N (RH Fs r vE vT Q) (hung s d)) := by
          intro w3 hw3
          subst hw3
          exact ⟨_, ⟨ts, _, v, vE, vT, evl, _, col5, rfl, hR5, ⟨HT0.out.ok0, HT0.out.ok1, HT0.out.tl⟩⟩, (HG3.out.trans (gr_set _ _ _ _ _)).trans hg5⟩
        have x0 := hend.cells 0
        have x1 := hend.cells 1
        have hs := HSIDE.out
        clear hp5 hk5 hs5 hR5 hg5 hend HOC
        cases d
        · simp only [sd, Bool.false_eq_true, if_false, Bool.not_false] at hs d0 df d2 FIN x0 x1
          subst hs
          obtain ⟨w3, hw3⟩ : ∃ w3, w2.setCell ⟨r, 3, none⟩ (.bool true) = w3 := ⟨_, rfl⟩
          rw [hw3] at d0 df d2 x0 x1
          have FW := Lib.hid (FIN.out w3 hw3)
          have y0 : w3.cell? ⟨r, 0, none⟩ = some (.pointer (some ⟨pu, 0, none⟩)) := by rw [← HPU.out]; exact x0
          rw [HPU.out] at d0
          generalize (s.l true).e false = oe at d2
          clear x0 x1 FIN
          go_wp2_with fail
          go_ret
          exact ⟨rfl, FW.out⟩
        · simp only [sd, if_true, Bool.not_true] at hs d0 df d2 FIN x0 x1
          subst hs
          obtain ⟨w3, hw3⟩ : ∃ w3, w2.setCell ⟨r, 4, none⟩ (.bool true) = w3 := ⟨_, rfl⟩
          rw [hw3] at d0 df d2 x0 x1
          have FW := Lib.hid (FIN.out w3 hw3)
          have y1 : w3.cell? ⟨r, 1, none⟩ = some (.pointer (some ⟨pc, 0, none⟩)) := by rw [← HPC.out]; exact x1
          rw [HPC.out] at d0
          generalize (s.l false).e true = oe at d2
          clear x0 x1 FIN
          go_wp2_with fail
          go_ret
          exact ⟨rfl, FW.out⟩
    · have hkp : 0 < k := by omega
      have e : readS s d n t = (got s d k t, true) := by unfold readS; rw [if_neg HC.out, HKN.out, if_pos hkp]
      obtain rfl : rs = (got s d k t, true) := by rw [← HRS.out, e]
      clear e
      obtain ⟨T, hT⟩ : ∃ T, seeT s.t s.ok t = T := ⟨_, rfl⟩
      obtain ⟨hto1, hto2⟩ := times_got HT0.out d k t
      obtain ⟨xs, hxs⟩ : ∃ xs, ((s.l d).x d).take k = xs := ⟨_, rfl⟩
      have HXS := Lib.hid hxs
      have HS2' := HS2
      rw [hxs] at HS2'
      have c2 : w2.cell? ⟨r, 2, none⟩ = some (.slice sp ne sc) := by rw [← HVE.out]; exact HR2.out.cells 2
      have c7 : w2.cell? ⟨r, 7, none⟩ = some vT := HR2.out.cells 7
      have c7f : w2.frozen? ⟨r, 7, none⟩ = false := HR2.out.frozen 7
      obtain ⟨nt, hnt⟩ : ∃ nt, ts.length = nt := ⟨_, rfl⟩
      have hntl : nt ≤ 4096 := by rw [← hnt, HT0.out.tl, HNE.out]; exact hnl
      have HNT := Lib.hid hnt
      have hRa := HR2.out.below (w' := w2.alloc (.cells #[.int .i64 t] 2)) ((Below.refl _ _).alloc (Nat.le_refl _) _)
      have HRA := Lib.hid hRa
      have HROW : Hid ((w2.alloc (.cells #[.int .i64 t] 2)).ownsRow 0 2 1 vT nt (ts.map fun x => .int .i64 x)) := by show World.ownsRow _ _ _ _ _ _ _; rw [← hnt]; exact hRa.rowT
      have hk0' : 0 < k := hkp
      have HTS : Hid ((ts ++ [t]).length ≤ 4097) := by show _ ≤ _; simp [hnt]; omega
      have HT := Lib.hid (hto1.trans hT)
      have HTO := Lib.hid hto2
      have HE4 : Hid (s.evs ++ [⟨side, T, xs⟩] = (got s d k t).evs) := by
        show _ = s.evs ++ [_]
        rw [hT, hxs, HSIDE.out]
      have hbk : k ≤ bc := by obtain ⟨_, _, _, e, h1, h2, _⟩ := HS2.out; cases e; exact h1
      clear hnt hRa hto1 hto2 hT hxs
      go_upto_region 12 with (at_builtin; refine wpList_append_lies _ rfl _ _ 81 rfl 0 2 iT _ 1 8 Tryd.underlying81 hiT hq0 hq1 hq2 rfl (by omega) vT nt _ rfl HROW.out ⟨w2.heap.size, 0, none⟩ 1 1 [.int .i64 t] rfl rfl (World.news_of_block (cs := #[.int .i64 t]) (t := 2) (fr := (0, 0)) (heap_alloc_new w2 _)) (by intro u hu; simp at hu; subst hu; rfl) (by omega) (by unfold maxLen; omega) (by omega) (by simp) (w2.heap.size + 1) (by simp) ?_; intro g4 cap4 w4 hown4 hgrow4 hat4 hlt4; have hRb := (HRA.out.grown hgrow4 4 HRA.out.cT).2.2.1 (by omega); have b7 : w4.cell? ⟨r, 7, none⟩ = some vT := cell_at hRb 7; have b7f : w4.frozen? ⟨r, 7, none⟩ = false := frozen_of_row _ _ _ _ _ hRb; have HTI := Lib.hid (HRA.out.time (t := t) (vT' := .slice (some ⟨g4, 0, none⟩) (nt + 1) cap4) hgrow4 (by rw [HNT.out]; exact hown4) (hat4.elim (fun h => .inl (by rw [h]; rfl)) (fun h => .inr ⟨g4, rfl, by rw [h]; simp⟩))); clear hown4 hgrow4 hat4 hRb)
      obtain ⟨w3, hw3⟩ : ∃ w3, w4.setCell ⟨r, 7, none⟩ (.slice (some ⟨g4, 0, none⟩) (nt + 1) cap4) = w3 := ⟨_, rfl⟩
      obtain ⟨⟨col3, hR3⟩, hg3, hq3⟩ := HTI.out
      obtain ⟨vT3, hvT3⟩ : ∃ v, Value.slice (some ⟨g4, 0, none⟩) (nt + 1) cap4 = v := ⟨_, rfl⟩
      rw [hw3, hvT3] at hR3 hg3
      rw [hw3] at hq3
      rw [hw3]
      obtain ⟨s3, hs3⟩ : ∃ s3, ({ s with l := upd s.l d ((s.l d).set d (((s.l d).x d).drop k) ((s.l d).e d)) } : RS) = s3 := ⟨_, rfl⟩
      obtain ⟨Fs3, hFs3⟩ : ∃ F, upd Fs d F2 = F := ⟨_, rfl⟩
      obtain ⟨Q3, hQ3⟩ : ∃ Q3, Q ++ (Value.slice ba k bc).ownBlock.toList = Q3 := ⟨_, rfl⟩
      have HR3d : Hid (RR (w3.drewN 1) r m N s3 (ts ++ [t]) Fs3 v vE vT3 evl Q3 col3) := by show RR _ _ _ _ _ _ _ _ _ _ _ _ _; rw [← hs3, ← hFs3, ← hQ3]; exact hR3.below (below_drewN (Below.refl _ _) 1)
      have HGR3 : Hid (Gr w (w3.drewN 1) (RH Fs r vE vT Q) (RH Fs3 r vE vT3 Q3)) := by
        show Gr _ _ _ _
        rw [← hFs3, ← hQ3]
        exact ((HG2.out.trans (Gr.below ((Below.refl _ _).alloc (Nat.le_refl _) _))).trans hg3).trans (Gr.below (below_drewN (Below.refl _ _) 1))
      have hs3w : Slc w3 Q3 (.slice ba k bc) xs := by
        have h1 := HS2'.out.below (w' := w2.alloc (.cells #[.int .i64 t] 2)) ((Below.refl _ _).alloc (Nat.le_refl _) _)
        rw [← hQ3]
        exact hq3 h1
      have HS3 := Lib.hid (hs3w.below (w' := w3.drewN 1) (below_drewN (Below.refl _ _) 1))
      have c2' : (w3.drewN 1).cell? ⟨r, 2, none⟩ = some (.slice sp ne sc) := by rw [← HVE.out]; exact HR3d.out.cells 2
      have c7' : (w3.drewN 1).cell? ⟨r, 7, none⟩ = some vT3 := HR3d.out.cells 7
      have c2 : w3.cell? ⟨r, 2, none⟩ = some (.slice sp ne sc) := c2'
      have c7 : w3.cell? ⟨r, 7, none⟩ = some vT3 := c7'
      have HNE3 : Hid (s3.evs.length = ne) := by show _ = _; rw [← hs3]; exact HNE.out
      have HSE3 : Hid (s3.evs = s.evs ∧ s3.w = s.w ∧ s3.o = s.o ∧ s3.l = (got s d k t).l) := by show _ ∧ _; rw [← hs3]; exact ⟨rfl, rfl, rfl, rfl⟩
      obtain ⟨z5, hz5⟩ : ∃ z, w3.heap.size = z := ⟨_, rfl⟩
      clear hR3 hg3 hq3 hs3w HTI HRA HROW HR2 HS2 HS2' HG2 hFs3 hQ3 hs3 hw3 c2' c7'
      clear b7 b7f
      have BB : Hid (Base w (w3.drewN 1) r m N s d k t (RH Fs r vE vT Q) (.slice ba k bc) s3 (ts ++ [t]) Fs3 v vE vT3 evl Q3 col3 sp ne sc side T xs z5) :=
        ⟨HGR3.out, HR3d.out, HVE.out, HNE3.out, HTO.out, HS3.out, HXS.out, HSE3.out.1, HSE3.out.2.1, HSE3.out.2.2.1, HSE3.out.2.2.2, HE4.out, hz5, HT.out, by simp, HTS.out⟩
      clear HGR3 HR3d HTO HS3 HSE3 HE4 HTS HA HT0 HNO HU HX HC HKN HKL HB1
      go_cut [] (fun w' => RdMid w w' r m N s d k t (RH Fs r vE vT Q) (.slice ba k bc))
      case first =>
        refine wp_region_noPanic ?_
        refine wp_region_held_drew (S := fun W => W.cell? ⟨r, 7, none⟩ = some vT3) (by kernel_rfl) (c7) (fun hHeld => ?_)
        refine wpAnyH_take (i := 0) (oi := ⟨some 79, _, _, _, _, _⟩) (v := ?_) rfl (by kernel_rfl) (by kernel_rfl) (by kernel_rfl) (fun _ _ _ h => h) (Or.inl ⟨by rfl, ?_⟩) hHeld ?_
        rotate_left
        · intro w hSw; (try dsimp only at hSw); go_simp; try with_reducible rfl
        try simp only [Act.put, List.setIfInBounds_toArray, List.set_cons_zero, List.set_cons_succ]
        refine wpAnyH_take (i := 1) (oi := ⟨some 80, _, _, _, _, _⟩) (v := ?_) rfl (by kernel_rfl) (by kernel_rfl) (by kernel_rfl) (fun _ _ _ h => h) (Or.inl ⟨by rfl, ?_⟩) hHeld ?_
        rotate_left
        · intro w hSw; (try dsimp only at hSw); go_simp; try with_reducible rfl
        try simp only [Act.put, List.setIfInBounds_toArray, List.set_cons_zero, List.set_cons_succ]
        refine wpAnyH_take (i := 2) (oi := ⟨some 81, _, _, _, _, _⟩) (v := ?_) rfl (by kernel_rfl) (by kernel_rfl) (by kernel_rfl) (fun _ _ _ h => h) (Or.inl ⟨by rfl, ?_⟩) hHeld ?_
        rotate_left
        · intro w hSw; (try dsimp only at hSw); go_simp; try with_reducible rfl
        try simp only [Act.put, List.setIfInBounds_toArray, List.set_cons_zero, List.set_cons_succ]
        refine wpAnyH_take (i := 3) (oi := ⟨some 82, _, _, _, _, _⟩) (v := ?_) rfl (by kernel_rfl) (by kernel_rfl) (by kernel_rfl) (fun _ _ _ h => h) (Or.inl ⟨by rfl, ?_⟩) hHeld ?_
        rotate_left
        · intro w hSw; (try dsimp only at hSw); go_simp; try with_reducible rfl
        try simp only [Act.put, List.setIfInBounds_toArray, List.set_cons_zero, List.set_cons_succ]
        refine wpAnyH_take (i := 5) (oi := ⟨some 84, _, _, _, _, _⟩) (v := ?_) rfl (by kernel_rfl) (by kernel_rfl) (by kernel_rfl) (fun _ _ _ h => h) (Or.inl ⟨by rfl, ?_⟩) hHeld ?_
        rotate_left
        · intro w hSw; (try dsimp only at hSw); go_simp; try with_reducible rfl
        try simp only [Act.put, List.setIfInBounds_toArray, List.set_cons_zero, List.set_cons_succ]
        refine wpAnyH_take (i := 6) (oi := ⟨some 85, _, _, _, _, _⟩) (v := ?_) rfl (by kernel_rfl) (by kernel_rfl) (by kernel_rfl) (fun _ _ _ h => h) (Or.inl ⟨by rfl, ?_⟩) hHeld ?_
        rotate_left
        · intro w hSw; (try dsimp only at hSw); go_simp; try with_reducible rfl
        try simp only [Act.put, List.setIfInBounds_toArray, List.set_cons_zero, List.set_cons_succ]
        refine wpAnyH_take (i := 7) (oi := ⟨some 86, _, _, _, _, _⟩) (v := ?_) rfl (by kernel_rfl) (by kernel_rfl) (by kernel_rfl) (fun _ _ _ h => h) (Or.inl ⟨by rfl, ?_⟩) hHeld ?_
        rotate_left
        · intro w hSw; (try dsimp only at hSw); go_simp; try with_reducible rfl
        try simp only [Act.put, List.setIfInBounds_toArray, List.set_cons_zero, List.set_cons_succ]
        refine wpAnyH_take (i := 8) (oi := ⟨some 87, _, _, _, _, _⟩) (v := ?_) rfl (by kernel_rfl) (by kernel_rfl) (by kernel_rfl) (fun _ _ _ h => h) (Or.inl ⟨by rfl, ?_⟩) hHeld ?_
        rotate_left
        · intro w hSw; (try dsimp only at hSw); go_simp; try with_reducible rfl
        try simp only [Act.put, List.setIfInBounds_toArray, List.set_cons_zero, List.set_cons_succ]
        refine wpAnyH_take (i := 9) (oi := ⟨some 88, _, _, _, _, _⟩) (v := ?_) rfl (by kernel_rfl) (by kernel_rfl) (by kernel_rfl) (fun _ _ _ h => h) (Or.inl ⟨by rfl, ?_⟩) hHeld ?_
        rotate_left
        · intro w hSw; (try dsimp only at hSw); go_simp; try with_reducible rfl
        try simp only [Act.put, List.setIfInBounds_toArray, List.set_cons_zero, List.set_cons_succ]
        refine wpAnyH_take (i := 12) (oi := ⟨some 91, _, _, _, _, _⟩) (v := ?_) rfl (by kernel_rfl) (by kernel_rfl) (by kernel_rfl) (fun _ _ _ h => h) (Or.inl ⟨by rfl, ?_⟩) hHeld ?_
        rotate_left
        · intro w hSw; (try dsimp only at hSw); go_simp; try with_reducible rfl
        try simp only [Act.put, List.setIfInBounds_toArray, List.set_cons_zero, List.set_cons_succ]
        refine wpAnyH_ready (rs := [4, 10, 11]) (by kernel_rfl) (by simp) (AllReadyH.cons (o := ⟨some 83, _, _, _, _, _⟩) rfl (fun K hK => ?_) (AllReadyH.cons (o := ⟨some 89, _, _, _, _, _⟩) rfl (fun K hK => ?_) (AllReadyH.cons (o := ⟨some 90, _, _, _, _, _⟩) rfl (fun K hK => ?_) AllReadyH.nil)))
        · go_simp
          refine hK.out _ _ (c7) (fun hHeld => ?_)
          clear hK K
          try simp only [Act.put, List.setIfInBounds_toArray, List.set_cons_zero, List.set_cons_succ]
          refine wpAnyH_ready (rs := [10, 11]) (by kernel_rfl) (by simp) (AllReadyH.cons (o := ⟨some 89, _, _, _, _, _⟩) rfl (fun K hK => ?_) (AllReadyH.cons (o := ⟨some 90, _, _, _, _, _⟩) rfl (fun K hK => ?_) AllReadyH.nil))
          · go_simp
            refine Calls.mono (greatest_any BB.out.r3.rowT BB.out.tl.1 BB.out.tl.2) ?_; rw [BB.out.tt]; rintro e4 w4 ⟨rfl, rfl⟩
            refine hK.out _ _ (c7) (fun hHeld => ?_)
            clear hK K
            try simp only [Act.put, List.setIfInBounds_toArray, List.set_cons_zero, List.set_cons_succ]
            refine wpAnyH_ready (rs := [11]) (by kernel_rfl) (by simp) (AllReadyH.cons (o := ⟨some 90, _, _, _, _, _⟩) rfl (fun K hK => ?_) AllReadyH.nil)
            go_simp
            obtain ⟨w5, hw5⟩ : ∃ w5, (w3.alloc (.cells #[] 5)).drew = w5 := ⟨_, rfl⟩; obtain ⟨hb5, ho5, hz6⟩ := BB.out.empty hw5; obtain ⟨d2, d7, hs5, _⟩ := BB.out.cells hb5; have HB5 := Lib.hid hb5; have HO5 := Lib.hid ho5; have HS5 := Lib.hid hs5; rw [hw5]; (try simp only [hz5]); clear hw5 hb5 ho5 hs5
            refine hK.out _ _ (d7) (fun hHeld => ?_)
            clear hK K
            try simp only [Act.put, List.setIfInBounds_toArray, List.set_cons_zero, List.set_cons_succ]
            refine wpAnyH_ready (rs := [13]) (by kernel_rfl) (by simp) (AllReadyH.cons (o := ⟨some 92, _, _, _, _, _⟩) rfl (fun K hK => ?_) AllReadyH.nil)
            refine step_app5 (by rfl) (.tmp 90) (.tmp 91) (by rfl) z5 (.slice (some ⟨z5, 0, none⟩) 0 0) [] xs 0 (by rfl) HO5.out Q3 ba k bc (by rfl) HS5.out (by omega) hz6 ?_; intro dv w6 hown6 hg6; obtain ⟨da, dc, rfl, hb6, hd6, hs6, ⟨col6, hr6⟩, hX6, hz66⟩ := BB.out.data HB5.out hz6 hown6 hg6; obtain ⟨e2, e7, _, _⟩ := BB.out.cells hb6; have HB6 := Lib.hid hb6; have HD6 := Lib.hid hd6; have HS6 := Lib.hid hs6; have HR6 := Lib.hid hr6; have HX6 : Hid _ := hX6; clear hown6 hg6 hb6 hd6 hs6 hr6 hX6 hz6
            refine hK.out _ _ (e7) (fun hHeld => ?_)
            clear hK K
            try simp only [Act.put, List.setIfInBounds_toArray, List.set_cons_zero, List.set_cons_succ]
            refine wpAnyH_take (i := 14) (oi := ⟨some 93, _, _, _, _, _⟩) (v := ?_) rfl (by kernel_rfl) (by kernel_rfl) (by kernel_rfl) (fun _ _ _ h => h) (Or.inl ⟨by rfl, ?_⟩) hHeld ?_
            rotate_left
            · intro w hSw; (try dsimp only at hSw); go_simp; try with_reducible rfl
            try simp only [Act.put, List.setIfInBounds_toArray, List.set_cons_zero, List.set_cons_succ]
            refine wpAnyH_ready (rs := [15]) (by kernel_rfl) (by simp) (AllReadyH.cons (o := ⟨some 94, _, _, _, _, _⟩) rfl (fun K hK => ?_) AllReadyH.nil)
            go_simp
            obtain ⟨w7, hw7⟩ : ∃ w7, w6.alloc (.cells #[.int .i64 side, .int .i64 T, .slice da k dc] 69) = w7 := ⟨_, rfl⟩; have hz7 : w7.heap[w6.heap.size]? = some (.cells #[.int .i64 side, .int .i64 T, .slice da k dc] 69 (0, 0)) := (by rw [← hw7]; exact heap_alloc_new w6 _); have hb7 : Below w6.heap.size w6 w7 := (by rw [← hw7]; exact (Below.refl _ _).alloc (Nat.le_refl _) _); rw [hw7]; obtain ⟨z, hz⟩ : ∃ z, w6.heap.size = z := ⟨_, rfl⟩; have hzz : w7.heap.size = z + 1 := (by rw [← hw7, World.size_alloc, hz]); have HZ7 := Lib.hid hz7; have HB7 := Lib.hid (HB6.out.trans (hb7.mono hz66)); obtain ⟨f2, f7, _, _⟩ := BB.out.cells HB7.out; have HR7 := Lib.hid (HR6.out.below hb7); have HS7 := Lib.hid (HS6.out.below hb7); have HD7 := Lib.hid (HD6.out.below hb7); rw [hz] at HZ7; clear hw7 hz7 hb7; (try simp only [hz])
            refine hK.out _ _ (f7) (fun hHeld => ?_)
            clear hK K
            try simp only [Act.put, List.setIfInBounds_toArray, List.set_cons_zero, List.set_cons_succ]
            refine wpAnyH_ready (rs := [16]) (by kernel_rfl) (by simp) (AllReadyH.cons (o := ⟨some 95, _, _, _, _, _⟩) rfl (fun K hK => ?_) AllReadyH.nil)
            refine step_append_lies _ (by rfl) (.tmp 83) (.tmp 94) 61 (by rfl) 0 69 i0 _ 3 40 Tryd.underlying61 hi0 hy0 hy1 hy2 rfl (by omega) (.slice sp ne sc) ne (evCells evl) (by rfl) (by have := HR7.out.row; rw [BB.out.ve] at this; simp only [BB.out.nE] at this; exact this) ⟨z, 0, none⟩ 1 1 [.int .i64 side, .int .i64 T, .slice da k dc] (by rfl) (by rfl) (World.news_of_block HZ7.out) (by intro u hu; simp at hu; rcases hu with rfl | rfl | rfl <;> rfl) (by omega) (by unfold maxLen; omega) (by omega) (by omega) (z + 1) hzz ?_; intro g cap w8 hown8 hgrow8 hat8 hlt8; obtain ⟨k2, kf2, k7, l7, HRM⟩ := BB.out.fin HB7.out HX6.out HR7.out HD7.out HS7.out hown8 hgrow8 (by rw [hzz]; exact hat8); have HRMH := Lib.hid HRM; clear hown8 hgrow8 hat8 HRM
            refine hK.out _ _ (k7) (fun hHeld => ?_)
            clear hK K
            try simp only [Act.put, List.setIfInBounds_toArray, List.set_cons_zero, List.set_cons_succ]
            refine wpAnyH_take (i := 17) (oi := ⟨some 96, _, _, _, _, _⟩) (v := ?_) rfl (by kernel_rfl) (by kernel_rfl) (by kernel_rfl) (fun _ _ _ h => h) (Or.inl ⟨by rfl, ?_⟩) hHeld ?_
            rotate_left
            · intro w hSw; (try dsimp only at hSw); go_simp; try with_reducible rfl
            try simp only [Act.put, List.setIfInBounds_toArray, List.set_cons_zero, List.set_cons_succ]
            refine wpAnyH_take (i := 18) (oi := ⟨some 97, _, _, _, _, _⟩) (v := ?_) rfl (by kernel_rfl) (by kernel_rfl) (by kernel_rfl) (fun _ _ _ h => h) (Or.inl ⟨by rfl, ?_⟩) hHeld ?_
            rotate_left
            · intro w hSw; (try dsimp only at hSw); go_simp; try with_reducible rfl
            try simp only [Act.put, List.setIfInBounds_toArray, List.set_cons_zero, List.set_cons_succ]
            refine wpAnyH_ready (rs := [19]) (by kernel_rfl) (by simp) (AllReadyH.cons (o := ⟨none, _, _, _, _, _⟩) rfl (fun K hK => ?_) AllReadyH.nil)
            go_simp
            refine hK.out _ _ (l7) (fun hHeld => ?_)
            clear hK K
            try simp only [Act.put, List.setIfInBounds_toArray, List.set_cons_zero, List.set_cons_succ]
            refine wpAnyH_done (by kernel_rfl) ?_ _
            refine NoPanic.normal ?_
            go_wp2_with fail
            go_meet
            exact HRMH.out
          · go_simp
            obtain ⟨w5, hw5⟩ : ∃ w5, (w3.alloc (.cells #[] 5)).drew = w5 := ⟨_, rfl⟩; obtain ⟨hb5, ho5, hz6⟩ := BB.out.empty hw5; obtain ⟨d2, d7, hs5, _⟩ := BB.out.cells hb5; have HB5 := Lib.hid hb5; have HO5 := Lib.hid ho5; have HS5 := Lib.hid hs5; rw [hw5]; (try simp only [hz5]); clear hw5 hb5 ho5 hs5
            refine hK.out _ _ (d7) (fun hHeld => ?_)
            clear hK K
            try simp only [Act.put, List.setIfInBounds_toArray, List.set_cons_zero, List.set_cons_succ]
            refine wpAnyH_ready (rs := [10]) (by kernel_rfl) (by simp) (AllReadyH.cons (o := ⟨some 89, _, _, _, _, _⟩) rfl (fun K hK => ?_) AllReadyH.nil)
            go_simp
            refine Calls.mono (greatest_any (BB.out.cells HB5.out).2.2.2.rowT BB.out.tl.1 BB.out.tl.2) ?_; rw [BB.out.tt]; rintro e4 w4 ⟨rfl, rfl⟩
            refine hK.out _ _ (d7) (fun hHeld => ?_)
            clear hK K
            try simp only [Act.put, List.setIfInBounds_toArray, List.set_cons_zero, List.set_cons_succ]
            refine wpAnyH_ready (rs := [13]) (by kernel_rfl) (by simp) (AllReadyH.cons (o := ⟨some 92, _, _, _, _, _⟩) rfl (fun K hK => ?_) AllReadyH.nil)
            refine step_app5 (by rfl) (.tmp 90) (.tmp 91) (by rfl) z5 (.slice (some ⟨z5, 0, none⟩) 0 0) [] xs 0 (by rfl) HO5.out Q3 ba k bc (by rfl) HS5.out (by omega) hz6 ?_; intro dv w6 hown6 hg6; obtain ⟨da, dc, rfl, hb6, hd6, hs6, ⟨col6, hr6⟩, hX6, hz66⟩ := BB.out.data HB5.out hz6 hown6 hg6; obtain ⟨e2, e7, _, _⟩ := BB.out.cells hb6; have HB6 := Lib.hid hb6; have HD6 := Lib.hid hd6; have HS6 := Lib.hid hs6; have HR6 := Lib.hid hr6; have HX6 : Hid _ := hX6; clear hown6 hg6 hb6 hd6 hs6 hr6 hX6 hz6
            refine hK.out _ _ (e7) (fun hHeld => ?_)
            clear hK K
            try simp only [Act.put, List.setIfInBounds_toArray, List.set_cons_zero, List.set_cons_succ]
            refine wpAnyH_take (i := 14) (oi := ⟨some 93, _, _, _, _, _⟩) (v := ?_) rfl (by kernel_rfl) (by kernel_rfl) (by kernel_rfl) (fun _ _ _ h => h) (Or.inl ⟨by rfl, ?_⟩) hHeld ?_
            rotate_left
            · intro w hSw; (try dsimp only at hSw); go_simp; try with_reducible rfl
            try simp only [Act.put, List.setIfInBounds_toArray, List.set_cons_zero, List.set_cons_succ]
            refine wpAnyH_ready (rs := [15]) (by kernel_rfl) (by simp) (AllReadyH.cons (o := ⟨some 94, _, _, _, _, _⟩) rfl (fun K hK => ?_) AllReadyH.nil)
            go_simp
            obtain ⟨w7, hw7⟩ : ∃ w7, w6.alloc (.cells #[.int .i64 side, .int .i64 T, .slice da k dc] 69) = w7 := ⟨_, rfl⟩; have hz7 : w7.heap[w6.heap.size]? = some (.cells #[.int .i64 side, .int .i64 T, .slice da k dc] 69 (0, 0)) := (by rw [← hw7]; exact heap_alloc_new w6 _); have hb7 : Below w6.heap.size w6 w7 := (by rw [← hw7]; exact (Below.refl _ _).alloc (Nat.le_refl _) _); rw [hw7]; obtain ⟨z, hz⟩ : ∃ z, w6.heap.size = z := ⟨_, rfl⟩; have hzz : w7.heap.size = z + 1 := (by rw [← hw7, World.size_alloc, hz]); have HZ7 := Lib.hid hz7; have HB7 := Lib.hid (HB6.out.trans (hb7.mono hz66)); obtain ⟨f2, f7, _, _⟩ := BB.out.cells HB7.out; have HR7 := Lib.hid (HR6.out.below hb7); have HS7 := Lib.hid (HS6.out.below hb7); have HD7 := Lib.hid (HD6.out.below hb7); rw [hz] at HZ7; clear hw7 hz7 hb7; (try simp only [hz])
            refine hK.out _ _ (f7) (fun hHeld => ?_)
            clear hK K
            try simp only [Act.put, List.setIfInBounds_toArray, List.set_cons_zero, List.set_cons_succ]
            refine wpAnyH_ready (rs := [16]) (by kernel_rfl) (by simp) (AllReadyH.cons (o := ⟨some 95, _, _, _, _, _⟩) rfl (fun K hK => ?_) AllReadyH.nil)
            refine step_append_lies _ (by rfl) (.tmp 83) (.tmp 94) 61 (by rfl) 0 69 i0 _ 3 40 Tryd.underlying61 hi0 hy0 hy1 hy2 rfl (by omega) (.slice sp ne sc) ne (evCells evl) (by rfl) (by have := HR7.out.row; rw [BB.out.ve] at this; simp only [BB.out.nE] at this; exact this) ⟨z, 0, none⟩ 1 1 [.int .i64 side, .int .i64 T, .slice da k dc] (by rfl) (by rfl) (World.news_of_block HZ7.out) (by intro u hu; simp at hu; rcases hu with rfl | rfl | rfl <;> rfl) (by omega) (by unfold maxLen; omega) (by omega) (by omega) (z + 1) hzz ?_; intro g cap w8 hown8 hgrow8 hat8 hlt8; obtain ⟨k2, kf2, k7, l7, HRM⟩ := BB.out.fin HB7.out HX6.out HR7.out HD7.out HS7.out hown8 hgrow8 (by rw [hzz]; exact hat8); have HRMH := Lib.hid HRM; clear hown8 hgrow8 hat8 HRM
            refine hK.out _ _ (k7) (fun hHeld => ?_)
            clear hK K
            try simp only [Act.put, List.setIfInBounds_toArray, List.set_cons_zero, List.set_cons_succ]
            refine wpAnyH_take (i := 17) (oi := ⟨some 96, _, _, _, _, _⟩) (v := ?_) rfl (by kernel_rfl) (by kernel_rfl) (by kernel_rfl) (fun _ _ _ h => h) (Or.inl ⟨by rfl, ?_⟩) hHeld ?_
            rotate_left
            · intro w hSw; (try dsimp only at hSw); go_simp; try with_reducible rfl
            try simp only [Act.put, List.setIfInBounds_toArray, List.set_cons_zero, List.set_cons_succ]
            refine wpAnyH_take (i := 18) (oi := ⟨some 97, _, _, _, _, _⟩) (v := ?_) rfl (by kernel_rfl) (by kernel_rfl) (by kernel_rfl) (fun _ _ _ h => h) (Or.inl ⟨by rfl, ?_⟩) hHeld ?_
            rotate_left
            · intro w hSw; (try dsimp only at hSw); go_simp; try with_reducible rfl
            try simp only [Act.put, List.setIfInBounds_toArray, List.set_cons_zero, List.set_cons_succ]
            refine wpAnyH_ready (rs := [19]) (by kernel_rfl) (by simp) (AllReadyH.cons (o := ⟨none, _, _, _, _, _⟩) rfl (fun K hK => ?_) AllReadyH.nil)
            go_simp
            refine hK.out _ _ (l7) (fun hHeld => ?_)
            clear hK K
            try simp only [Act.put, List.setIfInBounds_toArray, List.set_cons_zero, List.set_cons_succ]
            refine wpAnyH_done (by kernel_rfl) ?_ _
            refine NoPanic.normal ?_
            go_wp2_with fail
            go_meet
            exact HRMH.out
        · go_simp
          refine Calls.mono (greatest_any BB.out.r3.rowT BB.out.tl.1 BB.out.tl.2) ?_; rw [BB.out.tt]; rintro e4 w4 ⟨rfl, rfl⟩
          refine hK.out _ _ (c7) (fun hHeld => ?_)
          clear hK K
          try simp only [Act.put, List.setIfInBounds_toArray, List.set_cons_zero, List.set_cons_succ]
          refine wpAnyH_ready (rs := [4, 11]) (by kernel_rfl) (by simp) (AllReadyH.cons (o := ⟨some 83, _, _, _, _, _⟩) rfl (fun K hK => ?_) (AllReadyH.cons (o := ⟨some 90, _, _, _, _, _⟩) rfl (fun K hK => ?_) AllReadyH.nil))
          · go_simp
            refine hK.out _ _ (c7) (fun hHeld => ?_)
            clear hK K
            try simp only [Act.put, List.setIfInBounds_toArray, List.set_cons_zero, List.set_cons_succ]
            refine wpAnyH_ready (rs := [11]) (by kernel_rfl) (by simp) (AllReadyH.cons (o := ⟨some 90, _, _, _, _, _⟩) rfl (fun K hK => ?_) AllReadyH.nil)
            go_simp
            obtain ⟨w5, hw5⟩ : ∃ w5, (w3.alloc (.cells #[] 5)).drew = w5 := ⟨_, rfl⟩; obtain ⟨hb5, ho5, hz6⟩ := BB.out.empty hw5; obtain ⟨d2, d7, hs5, _⟩ := BB.out.cells hb5; have HB5 := Lib.hid hb5; have HO5 := Lib.hid ho5; have HS5 := Lib.hid hs5; rw [hw5]; (try simp only [hz5]); clear hw5 hb5 ho5 hs5
            refine hK.out _ _ (d7) (fun hHeld => ?_)
            clear hK K
            try simp only [Act.put, List.setIfInBounds_toArray, List.set_cons_zero, List.set_cons_succ]
            refine wpAnyH_ready (rs := [13]) (by kernel_rfl) (by simp) (AllReadyH.cons (o := ⟨some 92, _, _, _, _, _⟩) rfl (fun K hK => ?_) AllReadyH.nil)
            refine step_app5 (by rfl) (.tmp 90) (.tmp 91) (by rfl) z5 (.slice (some ⟨z5, 0, none⟩) 0 0) [] xs 0 (by rfl) HO5.out Q3 ba k bc (by rfl) HS5.out (by omega) hz6 ?_; intro dv w6 hown6 hg6; obtain ⟨da, dc, rfl, hb6, hd6, hs6, ⟨col6, hr6⟩, hX6, hz66⟩ := BB.out.data HB5.out hz6 hown6 hg6; obtain ⟨e2, e7, _, _⟩ := BB.out.cells hb6; have HB6 := Lib.hid hb6; have HD6 := Lib.hid hd6; have HS6 := Lib.hid hs6; have HR6 := Lib.hid hr6; have HX6 : Hid _ := hX6; clear hown6 hg6 hb6 hd6 hs6 hr6 hX6 hz6
            refine hK.out _ _ (e7) (fun hHeld => ?_)
            clear hK K
            try simp only [Act.put, List.setIfInBounds_toArray, List.set_cons_zero, List.set_cons_succ]
            refine wpAnyH_take (i := 14) (oi := ⟨some 93, _, _, _, _, _⟩) (v := ?_) rfl (by kernel_rfl) (by kernel_rfl) (by kernel_rfl) (fun _ _ _ h => h) (Or.inl ⟨by rfl, ?_⟩) hHeld ?_
            rotate_left
            · intro w hSw; (try dsimp only at hSw); go_simp; try with_reducible rfl
            try simp only [Act.put, List.setIfInBounds_toArray, List.set_cons_zero, List.set_cons_succ]
            refine wpAnyH_ready (rs := [15]) (by kernel_rfl) (by simp) (AllReadyH.cons (o := ⟨some 94, _, _, _, _, _⟩) rfl (fun K hK => ?_) AllReadyH.nil)
            go_simp
            obtain ⟨w7, hw7⟩ : ∃ w7, w6.alloc (.cells #[.int .i64 side, .int .i64 T, .slice da k dc] 69) = w7 := ⟨_, rfl⟩; have hz7 : w7.heap[w6.heap.size]? = some (.cells #[.int .i64 side, .int .i64 T, .slice da k dc] 69 (0, 0)) := (by rw [← hw7]; exact heap_alloc_new w6 _); have hb7 : Below w6.heap.size w6 w7 := (by rw [← hw7]; exact (Below.refl _ _).alloc (Nat.le_refl _) _); rw [hw7]; obtain ⟨z, hz⟩ : ∃ z, w6.heap.size = z := ⟨_, rfl⟩; have hzz : w7.heap.size = z + 1 := (by rw [← hw7, World.size_alloc, hz]); have HZ7 := Lib.hid hz7; have HB7 := Lib.hid (HB6.out.trans (hb7.mono hz66)); obtain ⟨f2, f7, _, _⟩ := BB.out.cells HB7.out; have HR7 := Lib.hid (HR6.out.below hb7); have HS7 := Lib.hid (HS6.out.below hb7); have HD7 := Lib.hid (HD6.out.below hb7); rw [hz] at HZ7; clear hw7 hz7 hb7; (try simp only [hz])
            refine hK.out _ _ (f7) (fun hHeld => ?_)
            clear hK K
            try simp only [Act.put, List.setIfInBounds_toArray, List.set_cons_zero, List.set_cons_succ]
            refine wpAnyH_ready (rs := [16]) (by kernel_rfl) (by simp) (AllReadyH.cons (o := ⟨some 95, _, _, _, _, _⟩) rfl (fun K hK => ?_) AllReadyH.nil)
            refine step_append_lies _ (by rfl) (.tmp 83) (.tmp 94) 61 (by rfl) 0 69 i0 _ 3 40 Tryd.underlying61 hi0 hy0 hy1 hy2 rfl (by omega) (.slice sp ne sc) ne (evCells evl) (by rfl) (by have := HR7.out.row; rw [BB.out.ve] at this; simp only [BB.out.nE] at this; exact this) ⟨z, 0, none⟩ 1 1 [.int .i64 side, .int .i64 T, .slice da k dc] (by rfl) (by rfl) (World.news_of_block HZ7.out) (by intro u hu; simp at hu; rcases hu with rfl | rfl | rfl <;> rfl) (by omega) (by unfold maxLen; omega) (by omega) (by omega) (z + 1) hzz ?_; intro g cap w8 hown8 hgrow8 hat8 hlt8; obtain ⟨k2, kf2, k7, l7, HRM⟩ := BB.out.fin HB7.out HX6.out HR7.out HD7.out HS7.out hown8 hgrow8 (by rw [hzz]; exact hat8); have HRMH := Lib.hid HRM; clear hown8 hgrow8 hat8 HRM
            refine hK.out _ _ (k7) (fun hHeld => ?_)
            clear hK K
            try simp only [Act.put, List.setIfInBounds_toArray, List.set_cons_zero, List.set_cons_succ]
            refine wpAnyH_take (i := 17) (oi := ⟨some 96, _, _, _, _, _⟩) (v := ?_) rfl (by kernel_rfl) (by kernel_rfl) (by kernel_rfl) (fun _ _ _ h => h) (Or.inl ⟨by rfl, ?_⟩) hHeld ?_
            rotate_left
            · intro w hSw; (try dsimp only at hSw); go_simp; try with_reducible rfl
            try simp only [Act.put, List.setIfInBounds_toArray, List.set_cons_zero, List.set_cons_succ]
            refine wpAnyH_take (i := 18) (oi := ⟨some 97, _, _, _, _, _⟩) (v := ?_) rfl (by kernel_rfl) (by kernel_rfl) (by kernel_rfl) (fun _ _ _ h => h) (Or.inl ⟨by rfl, ?_⟩) hHeld ?_
            rotate_left
            · intro w hSw; (try dsimp only at hSw); go_simp; try with_reducible rfl
            try simp only [Act.put, List.setIfInBounds_toArray, List.set_cons_zero, List.set_cons_succ]
            refine wpAnyH_ready (rs := [19]) (by kernel_rfl) (by simp) (AllReadyH.cons (o := ⟨none, _, _, _, _, _⟩) rfl (fun K hK => ?_) AllReadyH.nil)
            go_simp
            refine hK.out _ _ (l7) (fun hHeld => ?_)
            clear hK K
            try simp only [Act.put, List.setIfInBounds_toArray, List.set_cons_zero, List.set_cons_succ]
            refine wpAnyH_done (by kernel_rfl) ?_ _
            refine NoPanic.normal ?_
            go_wp2_with fail
            go_meet
            exact HRMH.out
          · go_simp
            obtain ⟨w5, hw5⟩ : ∃ w5, (w3.alloc (.cells #[] 5)).drew = w5 := ⟨_, rfl⟩; obtain ⟨hb5, ho5, hz6⟩ := BB.out.empty hw5; obtain ⟨d2, d7, hs5, _⟩ := BB.out.cells hb5; have HB5 := Lib.hid hb5; have HO5 := Lib.hid ho5; have HS5 := Lib.hid hs5; rw [hw5]; (try simp only [hz5]); clear hw5 hb5 ho5 hs5
            refine hK.out _ _ (d7) (fun hHeld => ?_)
            clear hK K
            try simp only [Act.put, List.setIfInBounds_toArray, List.set_cons_zero, List.set_cons_succ]
            refine wpAnyH_ready (rs := [4, 13]) (by kernel_rfl) (by simp) (AllReadyH.cons (o := ⟨some 83, _, _, _, _, _⟩) rfl (fun K hK => ?_) (AllReadyH.cons (o := ⟨some 92, _, _, _, _, _⟩) rfl (fun K hK => ?_) AllReadyH.nil))
            · go_simp
              refine hK.out _ _ (d7) (fun hHeld => ?_)
              clear hK K
              try simp only [Act.put, List.setIfInBounds_toArray, List.set_cons_zero, List.set_cons_succ]
              refine wpAnyH_ready (rs := [13]) (by kernel_rfl) (by simp) (AllReadyH.cons (o := ⟨some 92, _, _, _, _, _⟩) rfl (fun K hK => ?_) AllReadyH.nil)
              refine step_app5 (by rfl) (.tmp 90) (.tmp 91) (by rfl) z5 (.slice (some ⟨z5, 0, none⟩) 0 0) [] xs 0 (by rfl) HO5.out Q3 ba k bc (by rfl) HS5.out (by omega) hz6 ?_; intro dv w6 hown6 hg6; obtain ⟨da, dc, rfl, hb6, hd6, hs6, ⟨col6, hr6⟩, hX6, hz66⟩ := BB.out.data HB5.out hz6 hown6 hg6; obtain ⟨e2, e7, _, _⟩ := BB.out.cells hb6; have HB6 := Lib.hid hb6; have HD6 := Lib.hid hd6; have HS6 := Lib.hid hs6; have HR6 := Lib.hid hr6; have HX6 : Hid _ := hX6; clear hown6 hg6 hb6 hd6 hs6 hr6 hX6 hz6
              refine hK.out _ _ (e7) (fun hHeld => ?_)
              clear hK K
              try simp only [Act.put, List.setIfInBounds_toArray, List.set_cons_zero, List.set_cons_succ]
              refine wpAnyH_take (i := 14) (oi := ⟨some 93, _, _, _, _, _⟩) (v := ?_) rfl (by kernel_rfl) (by kernel_rfl) (by kernel_rfl) (fun _ _ _ h => h) (Or.inl ⟨by rfl, ?_⟩) hHeld ?_
              rotate_left
              · intro w hSw; (try dsimp only at hSw); go_simp; try with_reducible rfl
              try simp only [Act.put, List.setIfInBounds_toArray, List.set_cons_zero, List.set_cons_succ]
              refine wpAnyH_ready (rs := [15]) (by kernel_rfl) (by simp) (AllReadyH.cons (o := ⟨some 94, _, _, _, _, _⟩) rfl (fun K hK => ?_) AllReadyH.nil)
              go_simp
              obtain ⟨w7, hw7⟩ : ∃ w7, w6.alloc (.cells #[.int .i64 side, .int .i64 T, .slice da k dc] 69) = w7 := ⟨_, rfl⟩; have hz7 : w7.heap[w6.heap.size]? = some (.cells #[.int .i64 side, .int .i64 T, .slice da k dc] 69 (0, 0)) := (by rw [← hw7]; exact heap_alloc_new w6 _); have hb7 : Below w6.heap.size w6 w7 := (by rw [← hw7]; exact (Below.refl _ _).alloc (Nat.le_refl _) _); rw [hw7]; obtain ⟨z, hz⟩ : ∃ z, w6.heap.size = z := ⟨_, rfl⟩; have hzz : w7.heap.size = z + 1 := (by rw [← hw7, World.size_alloc, hz]); have HZ7 := Lib.hid hz7; have HB7 := Lib.hid (HB6.out.trans (hb7.mono hz66)); obtain ⟨f2, f7, _, _⟩ := BB.out.cells HB7.out; have HR7 := Lib.hid (HR6.out.below hb7); have HS7 := Lib.hid (HS6.out.below hb7); have HD7 := Lib.hid (HD6.out.below hb7); rw [hz] at HZ7; clear hw7 hz7 hb7; (try simp only [hz])
              refine hK.out _ _ (f7) (fun hHeld => ?_)
              clear hK K
              try simp only [Act.put, List.setIfInBounds_toArray, List.set_cons_zero, List.set_cons_succ]
              refine wpAnyH_ready (rs := [16]) (by kernel_rfl) (by simp) (AllReadyH.cons (o := ⟨some 95, _, _, _, _, _⟩) rfl (fun K hK => ?_) AllReadyH.nil)
              refine step_append_lies _ (by rfl) (.tmp 83) (.tmp 94) 61 (by rfl) 0 69 i0 _ 3 40 Tryd.underlying61 hi0 hy0 hy1 hy2 rfl (by omega) (.slice sp ne sc) ne (evCells evl) (by rfl) (by have := HR7.out.row; rw [BB.out.ve] at this; simp only [BB.out.nE] at this; exact this) ⟨z, 0, none⟩ 1 1 [.int .i64 side, .int .i64 T, .slice da k dc] (by rfl) (by rfl) (World.news_of_block HZ7.out) (by intro u hu; simp at hu; rcases hu with rfl | rfl | rfl <;> rfl) (by omega) (by unfold maxLen; omega) (by omega) (by omega) (z + 1) hzz ?_; intro g cap w8 hown8 hgrow8 hat8 hlt8; obtain ⟨k2, kf2, k7, l7, HRM⟩ := BB.out.fin HB7.out HX6.out HR7.out HD7.out HS7.out hown8 hgrow8 (by rw [hzz]; exact hat8); have HRMH := Lib.hid HRM; clear hown8 hgrow8 hat8 HRM
              refine hK.out _ _ (k7) (fun hHeld => ?_)
              clear hK K
              try simp only [Act.put, List.setIfInBounds_toArray, List.set_cons_zero, List.set_cons_succ]
              refine wpAnyH_take (i := 17) (oi := ⟨some 96, _, _, _, _, _⟩) (v := ?_) rfl (by kernel_rfl) (by kernel_rfl) (by kernel_rfl) (fun _ _ _ h => h) (Or.inl ⟨by rfl, ?_⟩) hHeld ?_
              rotate_left
              · intro w hSw; (try dsimp only at hSw); go_simp; try with_reducible rfl
              try simp only [Act.put, List.setIfInBounds_toArray, List.set_cons_zero, List.set_cons_succ]
              refine wpAnyH_take (i := 18) (oi := ⟨some 97, _, _, _, _, _⟩) (v := ?_) rfl (by kernel_rfl) (by kernel_rfl) (by kernel_rfl) (fun _ _ _ h => h) (Or.inl ⟨by rfl, ?_⟩) hHeld ?_
              rotate_left
              · intro w hSw; (try dsimp only at hSw); go_simp; try with_reducible rfl
              try simp only [Act.put, List.setIfInBounds_toArray, List.set_cons_zero, List.set_cons_succ]
              refine wpAnyH_ready (rs := [19]) (by kernel_rfl) (by simp) (AllReadyH.cons (o := ⟨none, _, _, _, _, _⟩) rfl (fun K hK => ?_) AllReadyH.nil)
              go_simp
              refine hK.out _ _ (l7) (fun hHeld => ?_)
              clear hK K
              try simp only [Act.put, List.setIfInBounds_toArray, List.set_cons_zero, List.set_cons_succ]
              refine wpAnyH_done (by kernel_rfl) ?_ _
              refine NoPanic.normal ?_
              go_wp2_with fail
              go_meet
              exact HRMH.out
            · refine step_app5 (by rfl) (.tmp 90) (.tmp 91) (by rfl) z5 (.slice (some ⟨z5, 0, none⟩) 0 0) [] xs 0 (by rfl) HO5.out Q3 ba k bc (by rfl) HS5.out (by omega) hz6 ?_; intro dv w6 hown6 hg6; obtain ⟨da, dc, rfl, hb6, hd6, hs6, ⟨col6, hr6⟩, hX6, hz66⟩ := BB.out.data HB5.out hz6 hown6 hg6; obtain ⟨e2, e7, _, _⟩ := BB.out.cells hb6; have HB6 := Lib.hid hb6; have HD6 := Lib.hid hd6; have HS6 := Lib.hid hs6; have HR6 := Lib.hid hr6; have HX6 : Hid _ := hX6; clear hown6 hg6 hb6 hd6 hs6 hr6 hX6 hz6
              refine hK.out _ _ (e7) (fun hHeld => ?_)
              clear hK K
              try simp only [Act.put, List.setIfInBounds_toArray, List.set_cons_zero, List.set_cons_succ]
              refine wpAnyH_take (i := 14) (oi := ⟨some 93, _, _, _, _, _⟩) (v := ?_) rfl (by kernel_rfl) (by kernel_rfl) (by kernel_rfl) (fun _ _ _ h => h) (Or.inl ⟨by rfl, ?_⟩) hHeld ?_
              rotate_left
              · intro w hSw; (try dsimp only at hSw); go_simp; try with_reducible rfl
              try simp only [Act.put, List.setIfInBounds_toArray, List.set_cons_zero, List.set_cons_succ]
              refine wpAnyH_ready (rs := [4, 15]) (by kernel_rfl) (by simp) (AllReadyH.cons (o := ⟨some 83, _, _, _, _, _⟩) rfl (fun K hK => ?_) (AllReadyH.cons (o := ⟨some 94, _, _, _, _, _⟩) rfl (fun K hK => ?_) AllReadyH.nil))
              · go_simp
                refine hK.out _ _ (e7) (fun hHeld => ?_)
                clear hK K
                try simp only [Act.put, List.setIfInBounds_toArray, List.set_cons_zero, List.set_cons_succ]
                refine wpAnyH_ready (rs := [15]) (by kernel_rfl) (by simp) (AllReadyH.cons (o := ⟨some 94, _, _, _, _, _⟩) rfl (fun K hK => ?_) AllReadyH.nil)
                go_simp
                obtain ⟨w7, hw7⟩ : ∃ w7, w6.alloc (.cells #[.int .i64 side, .int .i64 T, .slice da k dc] 69) = w7 := ⟨_, rfl⟩; have hz7 : w7.heap[w6.heap.size]? = some (.cells #[.int .i64 side, .int .i64 T, .slice da k dc] 69 (0, 0)) := (by rw [← hw7]; exact heap_alloc_new w6 _); have hb7 : Below w6.heap.size w6 w7 := (by rw [← hw7]; exact (Below.refl _ _).alloc (Nat.le_refl _) _); rw [hw7]; obtain ⟨z, hz⟩ : ∃ z, w6.heap.size = z := ⟨_, rfl⟩; have hzz : w7.heap.size = z + 1 := (by rw [← hw7, World.size_alloc, hz]); have HZ7 := Lib.hid hz7; have HB7 := Lib.hid (HB6.out.trans (hb7.mono hz66)); obtain ⟨f2, f7, _, _⟩ := BB.out.cells HB7.out; have HR7 := Lib.hid (HR6.out.below hb7); have HS7 := Lib.hid (HS6.out.below hb7); have HD7 := Lib.hid (HD6.out.below hb7); rw [hz] at HZ7; clear hw7 hz7 hb7; (try simp only [hz])
                refine hK.out _ _ (f7) (fun hHeld => ?_)
                clear hK K
                try simp only [Act.put, List.setIfInBounds_toArray, List.set_cons_zero, List.set_cons_succ]
                refine wpAnyH_ready (rs := [16]) (by kernel_rfl) (by simp) (AllReadyH.cons (o := ⟨some 95, _, _, _, _, _⟩) rfl (fun K hK => ?_) AllReadyH.nil)
                refine step_append_lies _ (by rfl) (.tmp 83) (.tmp 94) 61 (by rfl) 0 69 i0 _ 3 40 Tryd.underlying61 hi0 hy0 hy1 hy2 rfl (by omega) (.slice sp ne sc) ne (evCells evl) (by rfl) (by have := HR7.out.row; rw [BB.out.ve] at this; simp only [BB.out.nE] at this; exact this) ⟨z, 0, none⟩ 1 1 [.int .i64 side, .int .i64 T, .slice da k dc] (by rfl) (by rfl) (World.news_of_block HZ7.out) (by intro u hu; simp at hu; rcases hu with rfl | rfl | rfl <;> rfl) (by omega) (by unfold maxLen; omega) (by omega) (by omega) (z + 1) hzz ?_; intro g cap w8 hown8 hgrow8 hat8 hlt8; obtain ⟨k2, kf2, k7, l7, HRM⟩ := BB.out.fin HB7.out HX6.out HR7.out HD7.out HS7.out hown8 hgrow8 (by rw [hzz]; exact hat8); have HRMH := Lib.hid HRM; clear hown8 hgrow8 hat8 HRM
                refine hK.out _ _ (k7) (fun hHeld => ?_)
                clear hK K
                try simp only [Act.put, List.setIfInBounds_toArray, List.set_cons_zero, List.set_cons_succ]
                refine wpAnyH_take (i := 17) (oi := ⟨some 96, _, _, _, _, _⟩) (v := ?_) rfl (by kernel_rfl) (by kernel_rfl) (by kernel_rfl) (fun _ _ _ h => h) (Or.inl ⟨by rfl, ?_⟩) hHeld ?_
                rotate_left
                · intro w hSw; (try dsimp only at hSw); go_simp; try with_reducible rfl
                try simp only [Act.put, List.setIfInBounds_toArray, List.set_cons_zero, List.set_cons_succ]
                refine wpAnyH_take (i := 18) (oi := ⟨some 97, _, _, _, _, _⟩) (v := ?_) rfl (by kernel_rfl) (by kernel_rfl) (by kernel_rfl) (fun _ _ _ h => h) (Or.inl ⟨by rfl, ?_⟩) hHeld ?_
                rotate_left
                · intro w hSw; (try dsimp only at hSw); go_simp; try with_reducible rfl
                try simp only [Act.put, List.setIfInBounds_toArray, List.set_cons_zero, List.set_cons_succ]
                refine wpAnyH_ready (rs := [19]) (by kernel_rfl) (by simp) (AllReadyH.cons (o := ⟨none, _, _, _, _, _⟩) rfl (fun K hK => ?_) AllReadyH.nil)
                go_simp
                refine hK.out _ _ (l7) (fun hHeld => ?_)
                clear hK K
                try simp only [Act.put, List.setIfInBounds_toArray, List.set_cons_zero, List.set_cons_succ]
                refine wpAnyH_done (by kernel_rfl) ?_ _
                refine NoPanic.normal ?_
                go_wp2_with fail
                go_meet
                exact HRMH.out
              · go_simp
                obtain ⟨w7, hw7⟩ : ∃ w7, w6.alloc (.cells #[.int .i64 side, .int .i64 T, .slice da k dc] 69) = w7 := ⟨_, rfl⟩; have hz7 : w7.heap[w6.heap.size]? = some (.cells #[.int .i64 side, .int .i64 T, .slice da k dc] 69 (0, 0)) := (by rw [← hw7]; exact heap_alloc_new w6 _); have hb7 : Below w6.heap.size w6 w7 := (by rw [← hw7]; exact (Below.refl _ _).alloc (Nat.le_refl _) _); rw [hw7]; obtain ⟨z, hz⟩ : ∃ z, w6.heap.size = z := ⟨_, rfl⟩; have hzz : w7.heap.size = z + 1 := (by rw [← hw7, World.size_alloc, hz]); have HZ7 := Lib.hid hz7; have HB7 := Lib.hid (HB6.out.trans (hb7.mono hz66)); obtain ⟨f2, f7, _, _⟩ := BB.out.cells HB7.out; have HR7 := Lib.hid (HR6.out.below hb7); have HS7 := Lib.hid (HS6.out.below hb7); have HD7 := Lib.hid (HD6.out.below hb7); rw [hz] at HZ7; clear hw7 hz7 hb7; (try simp only [hz])
                refine hK.out _ _ (f7) (fun hHeld => ?_)
                clear hK K
                try simp only [Act.put, List.setIfInBounds_toArray, List.set_cons_zero, List.set_cons_succ]
                refine wpAnyH_ready (rs := [4]) (by kernel_rfl) (by simp) (AllReadyH.cons (o := ⟨some 83, _, _, _, _, _⟩) rfl (fun K hK => ?_) AllReadyH.nil)
                go_simp
                refine hK.out _ _ (f7) (fun hHeld => ?_)
                clear hK K
                try simp only [Act.put, List.setIfInBounds_toArray, List.set_cons_zero, List.set_cons_succ]
                refine wpAnyH_ready (rs := [16]) (by kernel_rfl) (by simp) (AllReadyH.cons (o := ⟨some 95, _, _, _, _, _⟩) rfl (fun K hK => ?_) AllReadyH.nil)
                refine step_append_lies _ (by rfl) (.tmp 83) (.tmp 94) 61 (by rfl) 0 69 i0 _ 3 40 Tryd.underlying61 hi0 hy0 hy1 hy2 rfl (by omega) (.slice sp ne sc) ne (evCells evl) (by rfl) (by have := HR7.out.row; rw [BB.out.ve] at this; simp only [BB.out.nE] at this; exact this) ⟨z, 0, none⟩ 1 1 [.int .i64 side, .int .i64 T, .slice da k dc] (by rfl) (by rfl) (World.news_of_block HZ7.out) (by intro u hu; simp at hu; rcases hu with rfl | rfl | rfl <;> rfl) (by omega) (by unfold maxLen; omega) (by omega) (by omega) (z + 1) hzz ?_; intro g cap w8 hown8 hgrow8 hat8 hlt8; obtain ⟨k2, kf2, k7, l7, HRM⟩ := BB.out.fin HB7.out HX6.out HR7.out HD7.out HS7.out hown8 hgrow8 (by rw [hzz]; exact hat8); have HRMH := Lib.hid HRM; clear hown8 hgrow8 hat8 HRM
                refine hK.out _ _ (k7) (fun hHeld => ?_)
                clear hK K
                try simp only [Act.put, List.setIfInBounds_toArray, List.set_cons_zero, List.set_cons_succ]
                refine wpAnyH_take (i := 17) (oi := ⟨some 96, _, _, _, _, _⟩) (v := ?_) rfl (by kernel_rfl) (by kernel_rfl) (by kernel_rfl) (fun _ _ _ h => h) (Or.inl ⟨by rfl, ?_⟩) hHeld ?_
                rotate_left
                · intro w hSw; (try dsimp only at hSw); go_simp; try with_reducible rfl
                try simp only [Act.put, List.setIfInBounds_toArray, List.set_cons_zero, List.set_cons_succ]
                refine wpAnyH_take (i := 18) (oi := ⟨some 97, _, _, _, _, _⟩) (v := ?_) rfl (by kernel_rfl) (by kernel_rfl) (by kernel_rfl) (fun _ _ _ h => h) (Or.inl ⟨by rfl, ?_⟩) hHeld ?_
                rotate_left
                · intro w hSw; (try dsimp only at hSw); go_simp; try with_reducible rfl
                try simp only [Act.put, List.setIfInBounds_toArray, List.set_cons_zero, List.set_cons_succ]
                refine wpAnyH_ready (rs := [19]) (by kernel_rfl) (by simp) (AllReadyH.cons (o := ⟨none, _, _, _, _, _⟩) rfl (fun K hK => ?_) AllReadyH.nil)
                go_simp
                refine hK.out _ _ (l7) (fun hHeld => ?_)
                clear hK K
                try simp only [Act.put, List.setIfInBounds_toArray, List.set_cons_zero, List.set_cons_succ]
                refine wpAnyH_done (by kernel_rfl) ?_ _
                refine NoPanic.normal ?_
                go_wp2_with fail
                go_meet
                exact HRMH.out
        · go_simp
          obtain ⟨w5, hw5⟩ : ∃ w5, (w3.alloc (.cells #[] 5)).drew = w5 := ⟨_, rfl⟩; obtain ⟨hb5, ho5, hz6⟩ := BB.out.empty hw5; obtain ⟨d2, d7, hs5, _⟩ := BB.out.cells hb5; have HB5 := Lib.hid hb5; have HO5 := Lib.hid ho5; have HS5 := Lib.hid hs5; rw [hw5]; (try simp only [hz5]); clear hw5 hb5 ho5 hs5
          refine hK.out _ _ (d7) (fun hHeld => ?_)
          clear hK K
          try simp only [Act.put, List.setIfInBounds_toArray, List.set_cons_zero, List.set_cons_succ]
          refine wpAnyH_ready (rs := [4, 10]) (by kernel_rfl) (by simp) (AllReadyH.cons (o := ⟨some 83, _, _, _, _, _⟩) rfl (fun K hK => ?_) (AllReadyH.cons (o := ⟨some 89, _, _, _, _, _⟩) rfl (fun K hK => ?_) AllReadyH.nil))
          · go_simp
            refine hK.out _ _ (d7) (fun hHeld => ?_)
            clear hK K
            try simp only [Act.put, List.setIfInBounds_toArray, List.set_cons_zero, List.set_cons_succ]
            refine wpAnyH_ready (rs := [10]) (by kernel_rfl) (by simp) (AllReadyH.cons (o := ⟨some 89, _, _, _, _, _⟩) rfl (fun K hK => ?_) AllReadyH.nil)
            go_simp
            refine Calls.mono (greatest_any (BB.out.cells HB5.out).2.2.2.rowT BB.out.tl.1 BB.out.tl.2) ?_; rw [BB.out.tt]; rintro e4 w4 ⟨rfl, rfl⟩
            refine hK.out _ _ (d7) (fun hHeld => ?_)
            clear hK K
            try simp only [Act.put, List.setIfInBounds_toArray, List.set_cons_zero, List.set_cons_succ]
            refine wpAnyH_ready (rs := [13]) (by kernel_rfl) (by simp) (AllReadyH.cons (o := ⟨some 92, _, _, _, _, _⟩) rfl (fun K hK => ?_) AllReadyH.nil)
            refine step_app5 (by rfl) (.tmp 90) (.tmp 91) (by rfl) z5 (.slice (some ⟨z5, 0, none⟩) 0 0) [] xs 0 (by rfl) HO5.out Q3 ba k bc (by rfl) HS5.out (by omega) hz6 ?_; intro dv w6 hown6 hg6; obtain ⟨da, dc, rfl, hb6, hd6, hs6, ⟨col6, hr6⟩, hX6, hz66⟩ := BB.out.data HB5.out hz6 hown6 hg6; obtain ⟨e2, e7, _, _⟩ := BB.out.cells hb6; have HB6 := Lib.hid hb6; have HD6 := Lib.hid hd6; have HS6 := Lib.hid hs6; have HR6 := Lib.hid hr6; have HX6 : Hid _ := hX6; clear hown6 hg6 hb6 hd6 hs6 hr6 hX6 hz6
            refine hK.out _ _ (e7) (fun hHeld => ?_)
            clear hK K
            try simp only [Act.put, List.setIfInBounds_toArray, List.set_cons_zero, List.set_cons_succ]
            refine wpAnyH_take (i := 14) (oi := ⟨some 93, _, _, _, _, _⟩) (v := ?_) rfl (by kernel_rfl) (by kernel_rfl) (by kernel_rfl) (fun _ _ _ h => h) (Or.inl ⟨by rfl, ?_⟩) hHeld ?_
            rotate_left
            · intro w hSw; (try dsimp only at hSw); go_simp; try with_reducible rfl
            try simp only [Act.put, List.setIfInBounds_toArray, List.set_cons_zero, List.set_cons_succ]
            refine wpAnyH_ready (rs := [15]) (by kernel_rfl) (by simp) (AllReadyH.cons (o := ⟨some 94, _, _, _, _, _⟩) rfl (fun K hK => ?_) AllReadyH.nil)
            go_simp
            obtain ⟨w7, hw7⟩ : ∃ w7, w6.alloc (.cells #[.int .i64 side, .int .i64 T, .slice da k dc] 69) = w7 := ⟨_, rfl⟩; have hz7 : w7.heap[w6.heap.size]? = some (.cells #[.int .i64 side, .int .i64 T, .slice da k dc] 69 (0, 0)) := (by rw [← hw7]; exact heap_alloc_new w6 _); have hb7 : Below w6.heap.size w6 w7 := (by rw [← hw7]; exact (Below.refl _ _).alloc (Nat.le_refl _) _); rw [hw7]; obtain ⟨z, hz⟩ : ∃ z, w6.heap.size = z := ⟨_, rfl⟩; have hzz : w7.heap.size = z + 1 := (by rw [← hw7, World.size_alloc, hz]); have HZ7 := Lib.hid hz7; have HB7 := Lib.hid (HB6.out.trans (hb7.mono hz66)); obtain ⟨f2, f7, _, _⟩ := BB.out.cells HB7.out; have HR7 := Lib.hid (HR6.out.below hb7); have HS7 := Lib.hid (HS6.out.below hb7); have HD7 := Lib.hid (HD6.out.below hb7); rw [hz] at HZ7; clear hw7 hz7 hb7; (try simp only [hz])
            refine hK.out _ _ (f7) (fun hHeld => ?_)
            clear hK K
            try simp only [Act.put, List.setIfInBounds_toArray, List.set_cons_zero, List.set_cons_succ]
            refine wpAnyH_ready (rs := [16]) (by kernel_rfl) (by simp) (AllReadyH.cons (o := ⟨some 95, _, _, _, _, _⟩) rfl (fun K hK => ?_) AllReadyH.nil)
            refine step_append_lies _ (by rfl) (.tmp 83) (.tmp 94) 61 (by rfl) 0 69 i0 _ 3 40 Tryd.underlying61 hi0 hy0 hy1 hy2 rfl (by omega) (.slice sp ne sc) ne (evCells evl) (by rfl) (by have := HR7.out.row; rw [BB.out.ve] at this; simp only [BB.out.nE] at this; exact this) ⟨z, 0, none⟩ 1 1 [.int .i64 side, .int .i64 T, .slice da k dc] (by rfl) (by rfl) (World.news_of_block HZ7.out) (by intro u hu; simp at hu; rcases hu with rfl | rfl | rfl <;> rfl) (by omega) (by unfold maxLen; omega) (by omega) (by omega) (z + 1) hzz ?_; intro g cap w8 hown8 hgrow8 hat8 hlt8; obtain ⟨k2, kf2, k7, l7, HRM⟩ := BB.out.fin HB7.out HX6.out HR7.out HD7.out HS7.out hown8 hgrow8 (by rw [hzz]; exact hat8); have HRMH := Lib.hid HRM; clear hown8 hgrow8 hat8 HRM
            refine hK.out _ _ (k7) (fun hHeld => ?_)
            clear hK K
            try simp only [Act.put, List.setIfInBounds_toArray, List.set_cons_zero, List.set_cons_succ]
            refine wpAnyH_take (i := 17) (oi := ⟨some 96, _, _, _, _, _⟩) (v := ?_) rfl (by kernel_rfl) (by kernel_rfl) (by kernel_rfl) (fun _ _ _ h => h) (Or.inl ⟨by rfl, ?_⟩) hHeld ?_
            rotate_left
            · intro w hSw; (try dsimp only at hSw); go_simp; try with_reducible rfl
            try simp only [Act.put, List.setIfInBounds_toArray, List.set_cons_zero, List.set_cons_succ]
            refine wpAnyH_take (i := 18) (oi := ⟨some 97, _, _, _, _, _⟩) (v := ?_) rfl (by kernel_rfl) (by kernel_rfl) (by kernel_rfl) (fun _ _ _ h => h) (Or.inl ⟨by rfl, ?_⟩) hHeld ?_
            rotate_left
            · intro w hSw; (try dsimp only at hSw); go_simp; try with_reducible rfl
            try simp only [Act.put, List.setIfInBounds_toArray, List.set_cons_zero, List.set_cons_succ]
            refine wpAnyH_ready (rs := [19]) (by kernel_rfl) (by simp) (AllReadyH.cons (o := ⟨none, _, _, _, _, _⟩) rfl (fun K hK => ?_) AllReadyH.nil)
            go_simp
            refine hK.out _ _ (l7) (fun hHeld => ?_)
            clear hK K
            try simp only [Act.put, List.setIfInBounds_toArray, List.set_cons_zero, List.set_cons_succ]
            refine wpAnyH_done (by kernel_rfl) ?_ _
            refine NoPanic.normal ?_
            go_wp2_with fail
            go_meet
            exact HRMH.out
          · go_simp
            refine Calls.mono (greatest_any (BB.out.cells HB5.out).2.2.2.rowT BB.out.tl.1 BB.out.tl.2) ?_; rw [BB.out.tt]; rintro e4 w4 ⟨rfl, rfl⟩
            refine hK.out _ _ (d7) (fun hHeld => ?_)
            clear hK K
            try simp only [Act.put, List.setIfInBounds_toArray, List.set_cons_zero, List.set_cons_succ]
            refine wpAnyH_ready (rs := [4, 13]) (by kernel_rfl) (by simp) (AllReadyH.cons (o := ⟨some 83, _, _, _, _, _⟩) rfl (fun K hK => ?_) (AllReadyH.cons (o := ⟨some 92, _, _, _, _, _⟩) rfl (fun K hK => ?_) AllReadyH.nil))
            · go_simp
              refine hK.out _ _ (d7) (fun hHeld => ?_)
              clear hK K
              try simp only [Act.put, List.setIfInBounds_toArray, List.set_cons_zero, List.set_cons_succ]
              refine wpAnyH_ready (rs := [13]) (by kernel_rfl) (by simp) (AllReadyH.cons (o := ⟨some 92, _, _, _, _, _⟩) rfl (fun K hK => ?_) AllReadyH.nil)
              refine step_app5 (by rfl) (.tmp 90) (.tmp 91) (by rfl) z5 (.slice (some ⟨z5, 0, none⟩) 0 0) [] xs 0 (by rfl) HO5.out Q3 ba k bc (by rfl) HS5.out (by omega) hz6 ?_; intro dv w6 hown6 hg6; obtain ⟨da, dc, rfl, hb6, hd6, hs6, ⟨col6, hr6⟩, hX6, hz66⟩ := BB.out.data HB5.out hz6 hown6 hg6; obtain ⟨e2, e7, _, _⟩ := BB.out.cells hb6; have HB6 := Lib.hid hb6; have HD6 := Lib.hid hd6; have HS6 := Lib.hid hs6; have HR6 := Lib.hid hr6; have HX6 : Hid _ := hX6; clear hown6 hg6 hb6 hd6 hs6 hr6 hX6 hz6
              refine hK.out _ _ (e7) (fun hHeld => ?_)
              clear hK K
              try simp only [Act.put, List.setIfInBounds_toArray, List.set_cons_zero, List.set_cons_succ]
              refine wpAnyH_take (i := 14) (oi := ⟨some 93, _, _, _, _, _⟩) (v := ?_) rfl (by kernel_rfl) (by kernel_rfl) (by kernel_rfl) (fun _ _ _ h => h) (Or.inl ⟨by rfl, ?_⟩) hHeld ?_
              rotate_left
              · intro w hSw; (try dsimp only at hSw); go_simp; try with_reducible rfl
              try simp only [Act.put, List.setIfInBounds_toArray, List.set_cons_zero, List.set_cons_succ]
              refine wpAnyH_ready (rs := [15]) (by kernel_rfl) (by simp) (AllReadyH.cons (o := ⟨some 94, _, _, _, _, _⟩) rfl (fun K hK => ?_) AllReadyH.nil)
              go_simp
              obtain ⟨w7, hw7⟩ : ∃ w7, w6.alloc (.cells #[.int .i64 side, .int .i64 T, .slice da k dc] 69) = w7 := ⟨_, rfl⟩; have hz7 : w7.heap[w6.heap.size]? = some (.cells #[.int .i64 side, .int .i64 T, .slice da k dc] 69 (0, 0)) := (by rw [← hw7]; exact heap_alloc_new w6 _); have hb7 : Below w6.heap.size w6 w7 := (by rw [← hw7]; exact (Below.refl _ _).alloc (Nat.le_refl _) _); rw [hw7]; obtain ⟨z, hz⟩ : ∃ z, w6.heap.size = z := ⟨_, rfl⟩; have hzz : w7.heap.size = z + 1 := (by rw [← hw7, World.size_alloc, hz]); have HZ7 := Lib.hid hz7; have HB7 := Lib.hid (HB6.out.trans (hb7.mono hz66)); obtain ⟨f2, f7, _, _⟩ := BB.out.cells HB7.out; have HR7 := Lib.hid (HR6.out.below hb7); have HS7 := Lib.hid (HS6.out.below hb7); have HD7 := Lib.hid (HD6.out.below hb7); rw [hz] at HZ7; clear hw7 hz7 hb7; (try simp only [hz])
              refine hK.out _ _ (f7) (fun hHeld => ?_)
              clear hK K
              try simp only [Act.put, List.setIfInBounds_toArray, List.set_cons_zero, List.set_cons_succ]
              refine wpAnyH_ready (rs := [16]) (by kernel_rfl) (by simp) (AllReadyH.cons (o := ⟨some 95, _, _, _, _, _⟩) rfl (fun K hK => ?_) AllReadyH.nil)
              refine step_append_lies _ (by rfl) (.tmp 83) (.tmp 94) 61 (by rfl) 0 69 i0 _ 3 40 Tryd.underlying61 hi0 hy0 hy1 hy2 rfl (by omega) (.slice sp ne sc) ne (evCells evl) (by rfl) (by have := HR7.out.row; rw [BB.out.ve] at this; simp only [BB.out.nE] at this; exact this) ⟨z, 0, none⟩ 1 1 [.int .i64 side, .int .i64 T, .slice da k dc] (by rfl) (by rfl) (World.news_of_block HZ7.out) (by intro u hu; simp at hu; rcases hu with rfl | rfl | rfl <;> rfl) (by omega) (by unfold maxLen; omega) (by omega) (by omega) (z + 1) hzz ?_; intro g cap w8 hown8 hgrow8 hat8 hlt8; obtain ⟨k2, kf2, k7, l7, HRM⟩ := BB.out.fin HB7.out HX6.out HR7.out HD7.out HS7.out hown8 hgrow8 (by rw [hzz]; exact hat8); have HRMH := Lib.hid HRM; clear hown8 hgrow8 hat8 HRM
              refine hK.out _ _ (k7) (fun hHeld => ?_)
              clear hK K
              try simp only [Act.put, List.setIfInBounds_toArray, List.set_cons_zero, List.set_cons_succ]
              refine wpAnyH_take (i := 17) (oi := ⟨some 96, _, _, _, _, _⟩) (v := ?_) rfl (by kernel_rfl) (by kernel_rfl) (by kernel_rfl) (fun _ _ _ h => h) (Or.inl ⟨by rfl, ?_⟩) hHeld ?_
              rotate_left
              · intro w hSw; (try dsimp only at hSw); go_simp; try with_reducible rfl
              try simp only [Act.put, List.setIfInBounds_toArray, List.set_cons_zero, List.set_cons_succ]
              refine wpAnyH_take (i := 18) (oi := ⟨some 97, _, _, _, _, _⟩) (v := ?_) rfl (by kernel_rfl) (by kernel_rfl) (by kernel_rfl) (fun _ _ _ h => h) (Or.inl ⟨by rfl, ?_⟩) hHeld ?_
              rotate_left
              · intro w hSw; (try dsimp only at hSw); go_simp; try with_reducible rfl
              try simp only [Act.put, List.setIfInBounds_toArray, List.set_cons_zero, List.set_cons_succ]
              refine wpAnyH_ready (rs := [19]) (by kernel_rfl) (by simp) (AllReadyH.cons (o := ⟨none, _, _, _, _, _⟩) rfl (fun K hK => ?_) AllReadyH.nil)
              go_simp
              refine hK.out _ _ (l7) (fun hHeld => ?_)
              clear hK K
              try simp only [Act.put, List.setIfInBounds_toArray, List.set_cons_zero, List.set_cons_succ]
              refine wpAnyH_done (by kernel_rfl) ?_ _
              refine NoPanic.normal ?_
              go_wp2_with fail
              go_meet
              exact HRMH.out
            · refine step_app5 (by rfl) (.tmp 90) (.tmp 91) (by rfl) z5 (.slice (some ⟨z5, 0, none⟩) 0 0) [] xs 0 (by rfl) HO5.out Q3 ba k bc (by rfl) HS5.out (by omega) hz6 ?_; intro dv w6 hown6 hg6; obtain ⟨da, dc, rfl, hb6, hd6, hs6, ⟨col6, hr6⟩, hX6, hz66⟩ := BB.out.data HB5.out hz6 hown6 hg6; obtain ⟨e2, e7, _, _⟩ := BB.out.cells hb6; have HB6 := Lib.hid hb6; have HD6 := Lib.hid hd6; have HS6 := Lib.hid hs6; have HR6 := Lib.hid hr6; have HX6 : Hid _ := hX6; clear hown6 hg6 hb6 hd6 hs6 hr6 hX6 hz6
              refine hK.out _ _ (e7) (fun hHeld => ?_)
              clear hK K
              try simp only [Act.put, List.setIfInBounds_toArray, List.set_cons_zero, List.set_cons_succ]
              refine wpAnyH_take (i := 14) (oi := ⟨some 93, _, _, _, _, _⟩) (v := ?_) rfl (by kernel_rfl) (by kernel_rfl) (by kernel_rfl) (fun _ _ _ h => h) (Or.inl ⟨by rfl, ?_⟩) hHeld ?_
              rotate_left
              · intro w hSw; (try dsimp only at hSw); go_simp; try with_reducible rfl
              try simp only [Act.put, List.setIfInBounds_toArray, List.set_cons_zero, List.set_cons_succ]
              refine wpAnyH_ready (rs := [4, 15]) (by kernel_rfl) (by simp) (AllReadyH.cons (o := ⟨some 83, _, _, _, _, _⟩) rfl (fun K hK => ?_) (AllReadyH.cons (o := ⟨some 94, _, _, _, _, _⟩) rfl (fun K hK => ?_) AllReadyH.nil))
              · go_simp
                refine hK.out _ _ (e7) (fun hHeld => ?_)
                clear hK K
                try simp only [Act.put, List.setIfInBounds_toArray, List.set_cons_zero, List.set_cons_succ]
                refine wpAnyH_ready (rs := [15]) (by kernel_rfl) (by simp) (AllReadyH.cons (o := ⟨some 94, _, _, _, _, _⟩) rfl (fun K hK => ?_) AllReadyH.nil)
                go_simp
                obtain ⟨w7, hw7⟩ : ∃ w7, w6.alloc (.cells #[.int .i64 side, .int .i64 T, .slice da k dc] 69) = w7 := ⟨_, rfl⟩; have hz7 : w7.heap[w6.heap.size]? = some (.cells #[.int .i64 side, .int .i64 T, .slice da k dc] 69 (0, 0)) := (by rw [← hw7]; exact heap_alloc_new w6 _); have hb7 : Below w6.heap.size w6 w7 := (by rw [← hw7]; exact (Below.refl _ _).alloc (Nat.le_refl _) _); rw [hw7]; obtain ⟨z, hz⟩ : ∃ z, w6.heap.size = z := ⟨_, rfl⟩; have hzz : w7.heap.size = z + 1 := (by rw [← hw7, World.size_alloc, hz]); have HZ7 := Lib.hid hz7; have HB7 := Lib.hid (HB6.out.trans (hb7.mono hz66)); obtain ⟨f2, f7, _, _⟩ := BB.out.cells HB7.out; have HR7 := Lib.hid (HR6.out.below hb7); have HS7 := Lib.hid (HS6.out.below hb7); have HD7 := Lib.hid (HD6.out.below hb7); rw [hz] at HZ7; clear hw7 hz7 hb7; (try simp only [hz])
                refine hK.out _ _ (f7) (fun hHeld => ?_)
                clear hK K
                try simp only [Act.put, List.setIfInBounds_toArray, List.set_cons_zero, List.set_cons_succ]
                refine wpAnyH_ready (rs := [16]) (by kernel_rfl) (by simp) (AllReadyH.cons (o := ⟨some 95, _, _, _, _, _⟩) rfl (fun K hK => ?_) AllReadyH.nil)
                refine step_append_lies _ (by rfl) (.tmp 83) (.tmp 94) 61 (by rfl) 0 69 i0 _ 3 40 Tryd.underlying61 hi0 hy0 hy1 hy2 rfl (by omega) (.slice sp ne sc) ne (evCells evl) (by rfl) (by have := HR7.out.row; rw [BB.out.ve] at this; simp only [BB.out.nE] at this; exact this) ⟨z, 0, none⟩ 1 1 [.int .i64 side, .int .i64 T, .slice da k dc] (by rfl) (by rfl) (World.news_of_block HZ7.out) (by intro u hu; simp at hu; rcases hu with rfl | rfl | rfl <;> rfl) (by omega) (by unfold maxLen; omega) (by omega) (by omega) (z + 1) hzz ?_; intro g cap w8 hown8 hgrow8 hat8 hlt8; obtain ⟨k2, kf2, k7, l7, HRM⟩ := BB.out.fin HB7.out HX6.out HR7.out HD7.out HS7.out hown8 hgrow8 (by rw [hzz]; exact hat8); have HRMH := Lib.hid HRM; clear hown8 hgrow8 hat8 HRM
                refine hK.out _ _ (k7) (fun hHeld => ?_)
                clear hK K
                try simp only [Act.put, List.setIfInBounds_toArray, List.set_cons_zero, List.set_cons_succ]
                refine wpAnyH_take (i := 17) (oi := ⟨some 96, _, _, _, _, _⟩) (v := ?_) rfl (by kernel_rfl) (by kernel_rfl) (by kernel_rfl) (fun _ _ _ h => h) (Or.inl ⟨by rfl, ?_⟩) hHeld ?_
                rotate_left
                · intro w hSw; (try dsimp only at hSw); go_simp; try with_reducible rfl
                try simp only [Act.put, List.setIfInBounds_toArray, List.set_cons_zero, List.set_cons_succ]
                refine wpAnyH_take (i := 18) (oi := ⟨some 97, _, _, _, _, _⟩) (v := ?_) rfl (by kernel_rfl) (by kernel_rfl) (by kernel_rfl) (fun _ _ _ h => h) (Or.inl ⟨by rfl, ?_⟩) hHeld ?_
                rotate_left
                · intro w hSw; (try dsimp only at hSw); go_simp; try with_reducible rfl
                try simp only [Act.put, List.setIfInBounds_toArray, List.set_cons_zero, List.set_cons_succ]
                refine wpAnyH_ready (rs := [19]) (by kernel_rfl) (by simp) (AllReadyH.cons (o := ⟨none, _, _, _, _, _⟩) rfl (fun K hK => ?_) AllReadyH.nil)
                go_simp
                refine hK.out _ _ (l7) (fun hHeld => ?_)
                clear hK K
                try simp only [Act.put, List.setIfInBounds_toArray, List.set_cons_zero, List.set_cons_succ]
                refine wpAnyH_done (by kernel_rfl) ?_ _
                refine NoPanic.normal ?_
                go_wp2_with fail
                go_meet
                exact HRMH.out
              · go_simp
                obtain ⟨w7, hw7⟩ : ∃ w7, w6.alloc (.cells #[.int .i64 side, .int .i64 T, .slice da k dc] 69) = w7 := ⟨_, rfl⟩; have hz7 : w7.heap[w6.heap.size]? = some (.cells #[.int .i64 side, .int .i64 T, .slice da k dc] 69 (0, 0)) := (by rw [← hw7]; exact heap_alloc_new w6 _); have hb7 : Below w6.heap.size w6 w7 := (by rw [← hw7]; exact (Below.refl _ _).alloc (Nat.le_refl _) _); rw [hw7]; obtain ⟨z, hz⟩ : ∃ z, w6.heap.size = z := ⟨_, rfl⟩; have hzz : w7.heap.size = z + 1 := (by rw [← hw7, World.size_alloc, hz]); have HZ7 := Lib.hid hz7; have HB7 := Lib.hid (HB6.out.trans (hb7.mono hz66)); obtain ⟨f2, f7, _, _⟩ := BB.out.cells HB7.out; have HR7 := Lib.hid (HR6.out.below hb7); have HS7 := Lib.hid (HS6.out.below hb7); have HD7 := Lib.hid (HD6.out.below hb7); rw [hz] at HZ7; clear hw7 hz7 hb7; (try simp only [hz])
                refine hK.out _ _ (f7) (fun hHeld => ?_)
                clear hK K
                try simp only [Act.put, List.setIfInBounds_toArray, List.set_cons_zero, List.set_cons_succ]
                refine wpAnyH_ready (rs := [4]) (by kernel_rfl) (by simp) (AllReadyH.cons (o := ⟨some 83, _, _, _, _, _⟩) rfl (fun K hK => ?_) AllReadyH.nil)
                go_simp
                refine hK.out _ _ (f7) (fun hHeld => ?_)
                clear hK K
                try simp only [Act.put, List.setIfInBounds_toArray, List.set_cons_zero, List.set_cons_succ]
                refine wpAnyH_ready (rs := [16]) (by kernel_rfl) (by simp) (AllReadyH.cons (o := ⟨some 95, _, _, _, _, _⟩) rfl (fun K hK => ?_) AllReadyH.nil)
                refine step_append_lies _ (by rfl) (.tmp 83) (.tmp 94) 61 (by rfl) 0 69 i0 _ 3 40 Tryd.underlying61 hi0 hy0 hy1 hy2 rfl (by omega) (.slice sp ne sc) ne (evCells evl) (by rfl) (by have := HR7.out.row; rw [BB.out.ve] at this; simp only [BB.out.nE] at this; exact this) ⟨z, 0, none⟩ 1 1 [.int .i64 side, .int .i64 T, .slice da k dc] (by rfl) (by rfl) (World.news_of_block HZ7.out) (by intro u hu; simp at hu; rcases hu with rfl | rfl | rfl <;> rfl) (by omega) (by unfold maxLen; omega) (by omega) (by omega) (z + 1) hzz ?_; intro g cap w8 hown8 hgrow8 hat8 hlt8; obtain ⟨k2, kf2, k7, l7, HRM⟩ := BB.out.fin HB7.out HX6.out HR7.out HD7.out HS7.out hown8 hgrow8 (by rw [hzz]; exact hat8); have HRMH := Lib.hid HRM; clear hown8 hgrow8 hat8 HRM
                refine hK.out _ _ (k7) (fun hHeld => ?_)
                clear hK K
                try simp only [Act.put, List.setIfInBounds_toArray, List.set_cons_zero, List.set_cons_succ]
                refine wpAnyH_take (i := 17) (oi := ⟨some 96, _, _, _, _, _⟩) (v := ?_) rfl (by kernel_rfl) (by kernel_rfl) (by kernel_rfl) (fun _ _ _ h => h) (Or.inl ⟨by rfl, ?_⟩) hHeld ?_
                rotate_left
                · intro w hSw; (try dsimp only at hSw); go_simp; try with_reducible rfl
                try simp only [Act.put, List.setIfInBounds_toArray, List.set_cons_zero, List.set_cons_succ]
                refine wpAnyH_take (i := 18) (oi := ⟨some 97, _, _, _, _, _⟩) (v := ?_) rfl (by kernel_rfl) (by kernel_rfl) (by kernel_rfl) (fun _ _ _ h => h) (Or.inl ⟨by rfl, ?_⟩) hHeld ?_
                rotate_left
                · intro w hSw; (try dsimp only at hSw); go_simp; try with_reducible rfl
                try simp only [Act.put, List.setIfInBounds_toArray, List.set_cons_zero, List.set_cons_succ]
                refine wpAnyH_ready (rs := [19]) (by kernel_rfl) (by simp) (AllReadyH.cons (o := ⟨none, _, _, _, _, _⟩) rfl (fun K hK => ?_) AllReadyH.nil)
                go_simp
                refine hK.out _ _ (l7) (fun hHeld => ?_)
                clear hK K
                try simp only [Act.put, List.setIfInBounds_toArray, List.set_cons_zero, List.set_cons_succ]
                refine wpAnyH_done (by kernel_rfl) ?_ _
                refine NoPanic.normal ?_
                go_wp2_with fail
                go_meet
                exact HRMH.out
      case rest =>
      obtain ⟨x1, x2, x3⟩ := rd_end hcut
      obtain ⟨xv, xc'⟩ := Option.isSome_iff_exists.1 x1
      have HF : Hid _ := x3
      have hs := HSIDE.out
      clear hcut x3 x1
      cases d
      · simp only [sd, Bool.false_eq_true, if_false] at hs x2 xc'
        subst hs
        go_wp2_with fail
        go_ret
        exact ⟨rfl, HF.out⟩
      · simp only [sd, if_true] at hs x2 xc'
        subst hs
        go_wp2_with fail
        go_ret
        exact ⟨rfl, HF.out⟩

end Go.Proofs.YthpdphbppapkhaaDoor
