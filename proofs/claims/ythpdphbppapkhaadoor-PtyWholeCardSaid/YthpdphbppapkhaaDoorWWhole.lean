/-
  The walk of PtyWhole. Condition: the table 'other' reads as the program's text lays it.
-/
import Derived.Test.YthpdphbppapkhaaDoorActs
namespace Go.Proofs.YthpdphbppapkhaaDoor.ptyWhole
open Go.RowKit qb

theorem strOf_append (xs ys : List Int) : strOfNums xs ++ strOfNums ys = strOfNums (xs ++ ys) := by
  apply ByteArray.ext
  simp [strOfNums]

set_option maxRecDepth 100000 in
set_option maxHeartbeats 1000000 in
theorem walk (a0 : Int) (a1 : Option Addr) (len1 cap1 : Nat) (bs : List Int) (x y : Int) (w : World) (_h0 : I64 a0) (h1 : IsBytes w a1 len1 cap1 bs) (_h2 : I64 x ∧ I64 y) (ho : Oth w) :
    Calls Tryd.prog 3 #[.int .i64 a0, .slice a1 len1 cap1, .agg #[.int .i64 x, .int .i64 y]] w fun e w' => e = .returned (.bool true) ∧ Below w.heap.size w w' := by
  have H1 := Lib.hid h1
  have HO := Lib.hid ho
  have hlc := h1.1
  have hcm := h1.2.1
  unfold maxLen at hcm
  clear h1 ho
  obtain ⟨B, hB⟩ : ∃ B, w.heap.size = B := ⟨_, rfl⟩
  obtain ⟨W0, hW0⟩ : ∃ W0, w.alloc (.cells #[.int .i64 x, .int .i64 y] 23) = W0 := ⟨_, rfl⟩
  have hs0 : W0.heap.size = B + 1 := by rw [← hW0]; simp [hB]
  have hb0 : Below B w W0 := by rw [← hW0]; exact (Below.refl _ _).alloc (by omega) _
  have hx0 : W0.cell? ⟨B, 0, none⟩ = some (.int .i64 x) ∧ W0.cell? ⟨B, 1, none⟩ = some (.int .i64 y) := by rw [← hW0, ← hB]; simp
  have ho0 : Oth W0 := HO.out.below hb0 (by omega)
  have HS0 := Lib.hid hs0
  have HB0 := Lib.hid hb0
  have HX0 := Lib.hid hx0
  have HO0 := Lib.hid ho0
  have HB : Hid _ := hB
  clear hs0 hb0 hx0 ho0
  go_enter Tryd.func3, Tryd.ntmps3
  go_upto_region 1 with fail
  clear hW0
  go_cut [1] (fun v1 w' => ∃ n : Nat, n ≤ 200 ∧ n ≤ len1 ∧ v1 = .slice a1 n cap1 ∧ W0 = w')
  case first =>
    go_wp2_with fail
    all_goals (go_meet; first | exact ⟨len1, by omega, Nat.le_refl _, rfl, rfl⟩ | exact ⟨200, by omega, by omega, rfl, rfl⟩)
  case rest =>
  obtain ⟨n1, hn1, hn2, rfl, rfl⟩ := hcut
  have hbs : IsBytes W0 a1 n1 cap1 (bs.take n1) := (H1.out.cut hn2).below (by have := HB0.out; rw [HB.out]; exact this)
  obtain ⟨zs, hzs⟩ : ∃ zs, bs.take n1 = zs := ⟨_, rfl⟩
  rw [hzs] at hbs
  have HZ := Lib.hid hbs
  clear hbs hzs H1 HO
  go_upto_region 2 with fail
  go_cut [7, 8] (fun v7 v8 w' => ∃ p F, ∃ N : Nat, v7 = .pointer (some ⟨p, 0, none⟩) ∧ v8 = .int .i64 0 ∧ IsP w' p F N ⟨[], [], false, false⟩ ∧ Fresh (B + 1) W0 w' F)
  case first =>
    go_wp2_with (go_at_call 14; refine (p_new _ (by omega) (by omega) W0 HO0.out).mono ?_; rintro e w' ⟨p, F, rfl, hp, hb1, hF⟩; rw [HS0.out] at hb1 hF)
    all_goals (go_meet; exact ⟨p, F, _, rfl, rfl, hp, hb1, hF⟩)
  case rest =>
  obtain ⟨p, F, N, rfl, rfl, hp, hf⟩ := hcut
  have HP := Lib.hid hp
  have HF := Lib.hid hf
  clear hp hf
  go_wp2_with fail
  refine (alive_any _ HP.out.oth).mono ?_
  rintro e w2 ⟨rfl, hb2⟩
  have hp2 := HP.out.below hb2 (Nat.le_refl _)
  have hf2 : Fresh (B + 1) W0 w2 F := ⟨HF.out.1.trans (hb2.mono (by have := HF.out.1.size; rw [HS0.out] at this; exact this)), HF.out.2⟩
  clear HP HF hb2
  have hst : ∃ F, IsP w2 p F N ⟨[], [], false, false⟩ ∧ Fresh (B + 1) W0 w2 F := ⟨F, hp2, hf2⟩
  clear hp2 hf2
  go_wp2_with fail
  go_loopg [9, 10, 36] 1000 (fun g v9 v10 v36 wr => ∃ (r : Nat) (ra : Option Addr) (rl rc : Nat) (G xs rs : List Int), r + g = 1000 ∧ v36 = .int .i64 r ∧ v9 = .slice ra rl rc ∧ v10 = .string (strOfNums G) ∧
    IsBytes W0 ra rl rc rs ∧ G ++ xs ++ rs = zs ∧ (xs.length + rs.length + r ≤ 200 ∨ (xs = [] ∧ rs = [])) ∧ ∃ F, IsP wr p F N ⟨xs, [], false, false⟩ ∧ Fresh (B + 1) W0 wr F)
  case atStart => exact ⟨0, a1, n1, cap1, [], [], zs, by omega, rfl, rfl, rfl, HZ.out, rfl, .inl (by have := HZ.out.2.2.1; simp; omega), hst⟩
  case round =>
    clear hst
    obtain ⟨r, ra, rl, rc, G, xs, rs, hr, rfl, rfl, rfl, hrs, hall, hfew, F, hp, hf⟩ := hrel
    have HR := Lib.hid hrs
    have HALL := Lib.hid hall
    have HFEW : Hid _ := hfew
    have HP := Lib.hid hp
    have HF := Lib.hid hf
    have hrl := hrs.1
    have hrc := hrs.2.1
    unfold maxLen at hrc
    have x0 : wr.cell? ⟨B, 0, none⟩ = some (.int .i64 x) := (hf.1.cell (p := ⟨B, 0, none⟩) (Nat.lt_succ_self B)).trans HX0.out.1
    have x1 : wr.cell? ⟨B, 1, none⟩ = some (.int .i64 y) := (hf.1.cell (p := ⟨B, 1, none⟩) (Nat.lt_succ_self B)).trans HX0.out.2
    clear hrs hall hfew hp hf
    by_cases hlt : r < 1000
    · go_upto_region 8 with fail
      have HGV : Hid (∀ m, m ≤ rl → qb.GivenIn wr F ra m rc (rs.take m)) := fun m hm => by
        have h1 := HR.out.cut hm
        exact h1.given (HF.out.1.mono (by rw [HS0.out]; exact Nat.le_refl _)) (fun k hk => by rw [HS0.out]; exact HF.out.2 k hk)
      have hsw : B + 1 ≤ wr.heap.size := by have := HF.out.1.size; rw [HS0.out] at this; exact this
      go_cut [11] (fun v11 w' => ∃ (k m : Nat), v11 = .int .i64 k ∧ took m xs.length N false = k ∧ m ≤ rl ∧ (0 < rl → 0 < m) ∧ ∃ F, IsP w' p F N ⟨xs ++ (rs.take m).take k, [], false, false⟩ ∧ Fresh (B + 1) W0 w' F)
      case first =>
        have HWR : Hid (∀ m, m ≤ rl → (0 < rl → 0 < m) → Calls Tryd.prog 16 #[.pointer (some ⟨p, 0, none⟩), .int .i64 1, .slice ra m rc] wr fun e w' => ∃ k : Nat, e = .returned (.int .i64 k) ∧
            Hid (∃ m, took m xs.length N false = k ∧ m ≤ rl ∧ (0 < rl → 0 < m) ∧ ∃ F, IsP w' p F N ⟨xs ++ (rs.take m).take k, [], false, false⟩ ∧ Fresh (B + 1) W0 w' F)) := fun m hm1 hm2 => by
          refine (p_write_at HP.out false 1 rfl _ _ _ _ (HGV.out m hm1) xs false rfl rfl).mono ?_
          rintro e w' ⟨rfl, F', hp', hk', hs'⟩
          exact ⟨_, rfl, m, rfl, hm1, hm2, F', hp', HF.out.keeps hsw hk' hs'⟩
        clear HGV HALL HFEW
        go_wp2_with fail
        all_goals (refine Calls.mono (HWR.out _ (by omega) (by omega)) ?_; rintro e w' ⟨k, rfl, HK⟩; clear HWR; go_wp2_with fail; go_meet; obtain ⟨m, h1, h2, h3, h4⟩ := HK.out; exact ⟨k, m, rfl, h1, h2, h3, h4⟩)
      case rest =>
        clear HGV
        obtain ⟨k, m, rfl, htk, hm1, hm2, F1, hp1, hf1⟩ := hcut
        have hkm : k ≤ m := by rw [← htk]; unfold took; simp; omega
        have hprog : 0 < rl → xs = [] → 0 < k := fun h e => by
          have h1 := hm2 h
          have h2 := HP.out.room false
          rw [← htk, e]
          unfold took
          simp
          omega
        have e : (rs.take m).take k = rs.take k := by rw [List.take_take, Nat.min_eq_left hkm]
        rw [e] at hp1
        have hkr : k ≤ rl := by omega
        have HPR : Hid _ := hprog
        have HP1 := Lib.hid hp1
        have HF1 := Lib.hid hf1
        have x2 : wc.cell? ⟨B, 1, none⟩ = some (.int .i64 y) := (hf1.1.cell (p := ⟨B, 1, none⟩) (Nat.lt_succ_self B)).trans HX0.out.2
        have hsw1 : B + 1 ≤ wc.heap.size := by have := hf1.1.size; rw [HS0.out] at this; exact this
        obtain ⟨ys, hys⟩ : ∃ ys, xs ++ rs.take k = ys := ⟨_, rfl⟩
        rw [hys] at hp1 HP1
        have HYS := Lib.hid hys
        clear htk hm2 hprog e hp1 hf1 x0 x1 hkm hm1 hys
        have FIN : Hid (∀ (q : Nat), q ≤ ys.length → (0 < ys.length → 0 < q) → (G ++ ys.take q) ++ ys.drop q ++ rs.drop k = zs ∧ ((ys.drop q).length + (rs.drop k).length + (r + 1) ≤ 200 ∨ (ys.drop q = [] ∧ rs.drop k = []))) := by
          intro q hq1 hq2
          have hrl2 : rs.length = rl := HR.out.2.2.1
          refine ⟨?_, ?_⟩
          · rw [List.append_assoc G, List.take_append_drop, ← HYS.out, List.append_assoc, List.append_assoc xs, List.take_append_drop, ← List.append_assoc]
            exact HALL.out
          · have hyl : ys.length = xs.length + k := by rw [← HYS.out]; simp; omega
            rcases HFEW.out with h | ⟨h1, h2⟩
            · by_cases h0 : 0 < ys.length
              · have := hq2 h0
                simp
                omega
              · have hx0 : xs = [] := List.eq_nil_of_length_eq_zero (by omega)
                have hr0 : ¬ 0 < rl := fun h => by have := HPR.out h hx0; omega
                exact .inr ⟨List.eq_nil_of_length_eq_zero (by simp; omega), List.eq_nil_of_length_eq_zero (by simp; omega)⟩
            · subst h1
              subst h2
              have : ys = [] := by rw [← HYS.out]; simp
              subst this
              exact .inr ⟨by simp, by simp⟩
        have hzl : zs.length ≤ 200 := by have := HZ.out.2.2.1; omega
        have hgl : (strOfNums G).size ≤ 200 := by rw [strOfNums_size]; have h := congrArg List.length HALL.out; simp at h; omega
        have HYL : Hid (ys.length ≤ 200) := by show _ ≤ _; have h := congrArg List.length HALL.out; rw [← HYS.out]; simp at h ⊢; omega
        clear hzl
        have HRD : Hid (∀ arg : Int, 1 ≤ arg → Calls Tryd.prog 17 #[.pointer (some ⟨p, 0, none⟩), .int .i64 0, .int .i64 arg] wc fun e w' => ∃ (q : Nat) (sp : Option Addr) (sc : Nat), e = .returned (.slice sp q sc) ∧ (strOfNums (ys.take q)).size ≤ 200 ∧
            (convert 22 9 (.slice sp q sc)).run Tryd.prog w' = .ok (.string (strOfNums (ys.take q))) w' ∧ Hid (q ≤ ys.length ∧ (0 < ys.length → 0 < q) ∧ ∃ F, IsP w' p F N ⟨ys.drop q, [], false, false⟩ ∧ Fresh (B + 1) W0 w' F)) := fun arg harg => by
          refine (p_read_at HP1.out false 0 rfl _ ys false rfl rfl).mono ?_
          rintro e w' ⟨sp, sc, rfl, hown, hp', hk'⟩
          exact ⟨_, sp, sc, rfl, by rw [strOfNums_size, List.length_take]; have := HYL.out; omega, conv_own hown, count_le _ _, by unfold count; omega, F1, hp', HF1.out.keeps hsw1 hk' (fun _ h => .inl h)⟩
        go_wp2_with fail
        all_goals (refine Calls.mono (HRD.out _ (by omega)) ?_; rintro e w' ⟨q, sp, sc, rfl, hql, hcv, HQ⟩; clear HRD; go_wp2_with fail; go_roundg (1000 - (r + 1)))
        all_goals first
          | omega
          | (obtain ⟨hq1, hq2, h3⟩ := HQ.out
             obtain ⟨f1, f2⟩ := FIN.out q hq1 hq2
             refine ⟨r + 1, _, _, _, G ++ ys.take q, ys.drop q, rs.drop k, by omega, by go_num, rfl, congrArg Value.string (strOf_append _ _), ?_, f1, f2, h3⟩
             have h := HR.out.drop hkr
             unfold from_ at h
             split at h
             · first
                 | exact h
                 | (rw [show rc - k = 0 from by omega] at h; exact h)
                 | (exfalso; omega)
             · first
                 | exact h
                 | (exfalso; omega))
    · have hr1 : r = 1000 := by omega
      subst hr1
      have hend : xs = [] ∧ rs = [] := by
        rcases HFEW.out with h | h
        · omega
        · exact h
      obtain ⟨rfl, rfl⟩ := hend
      have hG : G = zs := by have := HALL.out; simpa using this
      subst hG
      have hrl0 : rl = 0 := by have := HR.out.2.2.1; simpa using this.symm
      subst hrl0
      have hcv : (convert 22 9 (.slice a1 n1 cap1)).run Tryd.prog wr = .ok (.string (strOfNums G)) wr := by
        have := HZ.out.below (w' := wr) (HF.out.1.mono (by rw [HS0.out]; exact Nat.le_refl _))
        exact this.conv
      clear HFEW HALL x0 x1
      go_wp2_with fail
      refine (p_hang HP.out false 1 rfl).mono ?_
      rintro e w3 ⟨rfl, hp3, hk3⟩
      have hcv3 : (convert 22 9 (.slice a1 n1 cap1)).run Tryd.prog w3 = .ok (.string (strOfNums G)) w3 := by
        have hf3 := HF.out.keeps (by have := HF.out.1.size; rw [HS0.out] at this; exact this) hk3 (fun _ h => .inl h)
        have := HZ.out.below (w' := w3) (hf3.1.mono (by rw [HS0.out]; exact Nat.le_refl _))
        exact this.conv
      have HB3 : Hid (Below w.heap.size w w3) := by
        have hf3 := HF.out.keeps (by have := HF.out.1.size; rw [HS0.out] at this; exact this) hk3 (fun _ h => .inl h)
        have := HB0.out.trans (hf3.1.mono (by omega))
        rw [HB.out]
        exact this
      clear hcv hk3
      go_wp2_with fail
      refine (p_over hp3 false 0 rfl true rfl).mono ?_
      rintro e w4 ⟨rfl, rfl⟩
      go_wp2_with fail
      refine (p_over hp3 true 1 rfl false rfl).mono ?_
      rintro e w4 ⟨rfl, rfl⟩
      go_wp2_with fail
      go_ret
      exact ⟨rfl, HB3.out⟩
end Go.Proofs.YthpdphbppapkhaaDoor.ptyWhole
