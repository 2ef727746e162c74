/-
  The walk of PtyWays. Condition: the table 'other' reads as the program's text lays it.
-/
import Derived.Test.YthpdphbppapkhaaDoorActs
import Derived.Deep.RegionHeld3
namespace Go.Proofs.YthpdphbppapkhaaDoor.ptyWays
open Go.RowKit qb

attribute [local go_sem] Oper.semAt_some

/-- What holds round by round: two lines apart, of which the ways from 0 to 1 are alike. -/
structure St (w0 wr : World) (B p q N : Nat) (x : List Int) (e : Bool) (y z : List Int) (f g : Bool) (F G : List Nat) : Prop where
  lp : IsP wr p F N ⟨y, x, f, e⟩
  lq : IsP wr q G N ⟨z, x, g, e⟩
  fp : Fresh B w0 wr F
  fq : Fresh B w0 wr G
  dis : ∀ k, k ∈ F → k ∉ G
  sz : B ≤ wr.heap.size

section
variable {w0 wr w' : World} {B p q N : Nat} {x y z x' y' z' : List Int} {e f g e' f' g' : Bool} {F G F' G' : List Nat}

theorem St.below (h : St w0 wr B p q N x e y z f g F G) (hb : Below wr.heap.size wr w') : St w0 w' B p q N x e y z f g F G :=
  ⟨h.lp.below hb (Nat.le_refl _), h.lq.below hb (Nat.le_refl _), h.fp.keeps h.sz (Keeps.of_below hb F) (fun _ h => .inl h), h.fq.keeps h.sz (Keeps.of_below hb G) (fun _ h => .inl h), h.dis, Nat.le_trans h.sz hb.size⟩

theorem St.alloc (h : St w0 wr B p q N x e y z f g F G) (o : Obj) : St w0 (wr.alloc o) B p q N x e y z f g F G :=
  h.below ((Below.refl _ _).alloc (Nat.le_refl _) _)

theorem St.drewN (h : St w0 wr B p q N x e y z f g F G) (k : Nat) : St w0 (wr.drewN k) B p q N x e y z f g F G :=
  h.below (below_drewN (Below.refl _ _) k)

/-- The other line, behind a call of the first one; and of the second one. -/
theorem St.qp (h : St w0 wr B p q N x e y z f g F G) (hk : Keeps F wr w') : IsP w' q G N ⟨z, x, g, e⟩ := h.lq.keeps hk (fun k hk hf => h.dis k hf hk) h.lp.zero
theorem St.pq (h : St w0 wr B p q N x e y z f g F G) (hk : Keeps G wr w') : IsP w' p F N ⟨y, x, f, e⟩ := h.lp.keeps hk h.dis h.lq.zero

theorem fresh_other (h : Fresh B w0 wr G) (hf : Fresh B w0 wr F) (hB : B ≤ wr.heap.size) (hk : Keeps F wr w') : Fresh B w0 w' G := ⟨(hf.keeps hB hk (fun _ h => .inl h)).1, h.2⟩

/-- Behind a call on p's way from 1 to 0. -/
theorem St.back (h : St w0 wr B p q N x e y z f g F G) (hp : IsP w' p F' N ⟨y', x, f', e⟩) (hk : Keeps F wr w') (hs : ∀ k, k ∈ F' → k ∈ F ∨ wr.heap.size ≤ k) : St w0 w' B p q N x e y' z f' g F' G :=
  ⟨hp, h.qp hk, h.fp.keeps h.sz hk hs, fresh_other h.fq h.fp h.sz hk, fun k h1 h2 => by
    rcases hs k h1 with h' | h'
    · exact h.dis k h' h2
    · have := h.lq.lt k h2; omega, Nat.le_trans h.sz hk.size⟩

/-- Behind the same call on both ways from 0 to 1. -/
theorem St.both {w1 w2 : World} (h : St w0 wr B p q N x e y z f g F G) (_hp : IsP w1 p F' N ⟨y, x', f, e'⟩) (hk : Keeps F wr w1) (hs : ∀ k, k ∈ F' → k ∈ F ∨ wr.heap.size ≤ k)
    (hp2 : IsP w2 p F' N ⟨y, x', f, e'⟩) (hq : IsP w2 q G' N ⟨z, x', g, e'⟩) (hk2 : Keeps G w1 w2) (hs2 : ∀ k, k ∈ G' → k ∈ G ∨ w1.heap.size ≤ k) : St w0 w2 B p q N x' e' y z f g F' G' := by
  have hB1 := Nat.le_trans h.sz hk.size
  have f1 := h.fp.keeps h.sz hk hs
  have f2 := fresh_other h.fq h.fp h.sz hk
  refine ⟨hp2, hq, fresh_other f1 f2 hB1 hk2, f2.keeps hB1 hk2 hs2, fun k h1 h2 => ?_, Nat.le_trans hB1 hk2.size⟩
  have hlt := _hp.lt k h1
  rcases hs2 k h2 with h' | h'
  · rcases hs k h1 with h'' | h''
    · exact h.dis k h'' h'
    · have := h.lq.lt k h'; omega
  · omega

/-- p, behind the call on p and the one on q. -/
theorem St.two {w1 w2 : World} {s : Line} (h : St w0 wr B p q N x e y z f g F G) (hp : IsP w1 p F' N s) (hs : ∀ k, k ∈ F' → k ∈ F ∨ wr.heap.size ≤ k) (hk2 : Keeps G w1 w2) : IsP w2 p F' N s :=
  hp.keeps hk2 (fun k h1 h2 => by
    rcases hs k h1 with h' | h'
    · exact h.dis k h' h2
    · have := h.lq.lt k h2; omega) h.lq.zero
end

theorem cell_keeps {w w' : World} {F : List Nat} {C j : Nat} {v : Value} (hk : Keeps F w w') (h : w.cell? ⟨C, j, none⟩ = some v) (hn : C ∉ F) : w'.cell? ⟨C, j, none⟩ = some v := by
  have hb := hk.block C (World.block_lt_of_cell? w _ h) hn
  unfold World.cell? at *
  simpa [hb] using h

/-- .. and block C, which is none of theirs, holds o. -/
def Bx (w0 wr : World) (B p q N C : Nat) (o : Obj) : Prop := ∃ x e y z f g F G, St w0 wr B p q N x e y z f g F G ∧ C ∉ F ∧ C ∉ G ∧ wr.heap[C]? = some o

/-- A call on p's way from 1 to 0 keeps it. -/
theorem Bx.back {w0 wr w' : World} {B p q N C : Nat} {o : Obj} {x y z y' : List Int} {e f g f' : Bool} {F G F' : List Nat} (h : St w0 wr B p q N x e y z f g F G) (hF : C ∉ F) (hG : C ∉ G) (hC : wr.heap[C]? = some o)
    (hp : IsP w' p F' N ⟨y', x, f', e⟩) (hk : Keeps F wr w') (hs : ∀ k, k ∈ F' → k ∈ F ∨ wr.heap.size ≤ k) : Bx w0 w' B p q N C o := by
  have hl := (Array.getElem?_eq_some_iff.1 hC).1
  refine ⟨_, _, _, _, _, _, _, _, h.back hp hk hs, fun hm => ?_, hG, (hk.block C hl hF).trans hC⟩
  rcases hs C hm with h' | h'
  · exact hF h'
  · omega

def Any (w0 wr : World) (B p q N : Nat) : Prop := ∃ x e y z f g F G, St w0 wr B p q N x e y z f g F G

theorem Any.alloc {w0 wr : World} {B p q N : Nat} (h : Any w0 wr B p q N) (o : Obj) : Any w0 (wr.alloc o) B p q N := by
  obtain ⟨_, _, _, _, _, _, _, _, h⟩ := h
  exact ⟨_, _, _, _, _, _, _, _, h.alloc o⟩

set_option maxRecDepth 100000 in
set_option maxHeartbeats 20000000 in
theorem walk (a0 : Int) (a1 : Option Addr) (len1 cap1 : Nat) (acts : List Act) (a2 : Option Addr) (len2 cap2 : Nat) (bcts : List Act) (w : World) (_h0 : I64 a0) (h1 : IsActs w a1 len1 cap1 acts) (h2 : IsActs w a2 len2 cap2 bcts) (ho : Oth w) :
    Calls Tryd.prog 5 #[.int .i64 a0, .slice a1 len1 cap1, .slice a2 len2 cap2] w fun e w' => e = .returned (.bool true) ∧ Below w.heap.size w w' := by
  have HO := Lib.hid ho
  have HG := Lib.hid h1
  have HG2 := Lib.hid h2
  clear ho h1 h2
  by_cases hg : isGreat 100 acts = true
  · go_enter Tryd.func5, Tryd.ntmps5
    go_wp2_with fail
    refine (alive_any w HO.out).mono ?_
    rintro e w1 ⟨rfl, hb1⟩
    go_wp2_with fail
    refine (great_any a1 len1 cap1 acts w1 (IsActs.below HG.out hb1)).mono ?_
    rintro e w2 ⟨rfl, hb2⟩
    rw [hg]
    go_wp2_with fail
    refine (alive_any w2 ((HO.out.below hb1 (Nat.le_refl _)).below hb2 (Nat.le_refl _))).mono ?_
    rintro e w3 ⟨rfl, hb3⟩
    go_wp2_with fail
    go_ret
    exact ⟨rfl, (hb1.trans (hb2.mono hb1.size)).trans (hb3.mono (Nat.le_trans hb1.size hb2.size))⟩
  · rw [Bool.not_eq_true] at hg
    by_cases hg2 : isGreat 100 bcts = true
    · go_enter Tryd.func5, Tryd.ntmps5
      go_wp2_with fail
      refine (alive_any w HO.out).mono ?_
      rintro e w1 ⟨rfl, hb1⟩
      go_wp2_with fail
      refine (great_any a1 len1 cap1 acts w1 (IsActs.below HG.out hb1)).mono ?_
      rintro e w2 ⟨rfl, hb2⟩
      rw [hg]
      have hb12 := hb1.trans (hb2.mono hb1.size)
      go_wp2_with fail
      refine (great_any a2 len2 cap2 bcts w2 (IsActs.below HG2.out hb12)).mono ?_
      rintro e w3 ⟨rfl, hb3⟩
      rw [hg2]
      have hb13 := hb12.trans (hb3.mono hb12.size)
      go_wp2_with fail
      refine (alive_any w3 (HO.out.below hb13 (Nat.le_refl _))).mono ?_
      rintro e w4 ⟨rfl, hb4⟩
      go_wp2_with fail
      go_ret
      exact ⟨rfl, hb13.trans (hb4.mono hb13.size)⟩
    · rw [Bool.not_eq_true] at hg2
      obtain ⟨B, hB⟩ : ∃ B, w.heap.size = B := ⟨_, rfl⟩
      go_enter Tryd.func5, Tryd.ntmps5
      go_wp2_with fail
      refine (alive_any w HO.out).mono ?_
      rintro e w1 ⟨rfl, hb1⟩
      go_wp2_with fail
      refine (great_any a1 len1 cap1 acts w1 (IsActs.below HG.out hb1)).mono ?_
      rintro e w2 ⟨rfl, hb2⟩
      rw [hg]
      have hb12 := hb1.trans (hb2.mono hb1.size)
      go_wp2_with fail
      refine (great_any a2 len2 cap2 bcts w2 (IsActs.below HG2.out hb12)).mono ?_
      rintro e w3 ⟨rfl, hb3⟩
      rw [hg2]
      have hb13 : Below B w w3 := by rw [← hB]; exact hb12.trans (hb3.mono hb12.size)
      have ho3 : Oth w3 := HO.out.below hb13 (by omega)
      have HB3 := Lib.hid hb13
      have HO3 := Lib.hid ho3
      clear hg hg2 hb1 hb2 hb3 hb12 hb13 ho3
      go_upto_region 3 with fail
      go_cut [7] (fun v7 w' => ∃ n : Nat, 1 ≤ n ∧ n ≤ 30 ∧ v7 = .int .i64 n ∧ w3 = w')
      case first =>
        go_wp2_with fail
        all_goals (go_meet; first | exact ⟨(1 + a0 % 30).toNat, by omega, by omega, congrArg (Value.int .i64) (by omega), rfl⟩ | exact ⟨1, by omega, by omega, rfl, rfl⟩)
      case rest =>
      obtain ⟨N, hN1, hN2, rfl, rfl⟩ := hcut
      go_wp2_with fail
      refine (p_new N (by omega) (by omega) w3 HO3.out).mono ?_
      rintro e w4 ⟨p, F, rfl, hp, hb4, hF⟩
      rw [Int.toNat_natCast] at hp
      have HP := Lib.hid hp
      have HB4 := Lib.hid hb4
      have HF : Hid _ := hF
      clear hp hb4 hF
      go_wp2_with fail
      refine (p_new N (by omega) (by omega) w4 HP.out.oth).mono ?_
      rintro e w5 ⟨q, G, rfl, hq, hb5, hG⟩
      rw [Int.toNat_natCast] at hq
      have hst : Any w w5 B p q N := by
        have s3 : B ≤ w3.heap.size := by have := HB3.out.size; omega
        have b4 : Below B w w4 := HB3.out.trans (HB4.out.mono s3)
        have s4 : B ≤ w4.heap.size := by have := b4.size; omega
        have b5 : Below B w w5 := b4.trans (hb5.mono s4)
        refine ⟨_, _, _, _, _, _, F, G, HP.out.below hb5 (Nat.le_refl _), hq, ⟨b5, fun k hk => Nat.le_trans s3 (HF.out k hk)⟩, ⟨b5, fun k hk => Nat.le_trans s4 (hG k hk)⟩, fun k h1 h2 => by have := HP.out.lt k h1; have := hG k h2; omega, by have := b5.size; omega⟩
      have HA : Hid (∀ i, i < len1 → ∃ b off act, a1 = some ⟨b, off, none⟩ ∧ b < w.heap.size ∧ acts[i]? = some act ∧ IsAct w b (off + i * 4) act) := HG.out.2.2.2
      have HA2 : Hid (∀ i, i < len2 → ∃ b off act, a2 = some ⟨b, off, none⟩ ∧ b < w.heap.size ∧ bcts[i]? = some act ∧ IsAct w b (off + i * 4) act) := HG2.out.2.2.2
      have hcap : len1 ≤ cap1 := HG.out.1
      have hcm := HG.out.2.1
      have hcap2 : len2 ≤ cap2 := HG2.out.1
      have hcm2 := HG2.out.2.1
      unfold maxLen at hcm hcm2
      clear HP HF HG HG2 HB4 hb5 hq hG HB3 HO3
      go_wp2_with fail
      go_loopg [55] len1 (fun g v55 wr => ∃ i : Nat, i + g = len1 ∧ v55 = .int .i64 i ∧ Any w wr B p q N)
      case atStart => exact ⟨0, by omega, rfl, hst⟩
      case round =>
        clear hst
        obtain ⟨i, hi, rfl, hany⟩ := hrel
        by_cases hlt : i < len1
        · obtain ⟨ab, ao, ⟨kd, sdv, nn, ll⟩, rfl, hab, hact, la, ln, lc, c0, c1, c2, c3, hl, _⟩ := HA.out i hlt
          have hbel : Below w.heap.size w wr := by obtain ⟨_, _, _, _, _, _, _, _, hst⟩ := hany; rw [hB]; exact hst.fp.1
          have d0 := (hbel.cell (p := ⟨ab, ao + i * 4, none⟩) hab).trans c0
          have d1 := (hbel.cell (p := ⟨ab, ao + i * 4 + 1, none⟩) hab).trans c1
          have d2 := (hbel.cell (p := ⟨ab, ao + i * 4 + 2, none⟩) hab).trans c2
          have d3 := (hbel.cell (p := ⟨ab, ao + i * 4 + 3, none⟩) hab).trans c3
          have HL := Lib.hid hl
          have HST := Lib.hid (hany.alloc (.cells #[.int .i64 kd, .int .i64 sdv, .int .i64 nn, .slice la ln lc] 38))
          obtain ⟨C, hC⟩ : ∃ C, wr.heap.size = C := ⟨_, rfl⟩
          obtain ⟨W1, hW1⟩ : ∃ W1, wr.alloc (.cells #[.int .i64 kd, .int .i64 sdv, .int .i64 nn, .slice la ln lc] 38) = W1 := ⟨_, rfl⟩
          have hbox : W1.heap[C]? = some (.cells #[.int .i64 kd, .int .i64 sdv, .int .i64 nn, .slice la ln lc] 38 (0, 0)) := by rw [← hW1, ← hC]; exact heap_alloc_new wr _
          rw [hW1] at HST
          have hCB : B ≤ C := by rw [← hC, ← hB]; exact hbel.size
          have hbx : Bx w W1 B p q N C (.cells #[.int .i64 kd, .int .i64 sdv, .int .i64 nn, .slice la ln lc] 38 (0, 0)) := by
            obtain ⟨x, e, y, z, f, g, F, G, hst⟩ := hany
            have hbox' := hbox
            rw [← hW1] at hbox' ⊢
            exact ⟨x, e, y, z, f, g, F, G, hst.alloc _, fun hm => by have := hst.lp.lt _ hm; omega, fun hm => by have := hst.lq.lt _ hm; omega, hbox'⟩
          have HBX := Lib.hid hbx
          have hb1 : Below w.heap.size w W1 := by rw [← hW1]; exact hbel.alloc hbel.size _
          have HB1 := Lib.hid hb1
          clear HST c0 c1 c2 c3 hl hany hact hbx hbox hb1
          go_upto_if 63 with fail
          go_cut [] (fun w' => Bx w w' B p q N C (.cells #[.int .i64 kd, .int .i64 sdv, .int .i64 nn, .slice la ln lc] 38 (0, 0)))
          case first =>
            by_cases hlt2 : i < len2
            · obtain ⟨bb, bo, ⟨kd2, sd2, nn2, ll2⟩, rfl, hbb, _, ma, mn, mc, m0, m1, m2, m3, hl2, _⟩ := HA2.out i hlt2
              have e0 := (HB1.out.cell (p := ⟨bb, bo + i * 4, none⟩) hbb).trans m0
              have e2 := (HB1.out.cell (p := ⟨bb, bo + i * 4 + 2, none⟩) hbb).trans m2
              have e3 := (HB1.out.cell (p := ⟨bb, bo + i * 4 + 3, none⟩) hbb).trans m3
              have HL2 := Lib.hid hl2
              clear m0 m1 m2 m3 hl2
              obtain ⟨x, e, y, z, f, g, F, G, hst, hCF, hCG, hC⟩ := HBX.out
              have HST := Lib.hid hst
              have HC := Lib.hid hC
              clear hst hC
              by_cases k0 : kd2 = 0
              · subst k0
                have hGV : Hid (qb.GivenIn W1 F ma mn mc ll2) := IsBytes.given HL2.out (by rw [hB]; exact HST.out.fp.1) (by rw [hB]; exact HST.out.fp.2)
                go_wp2_with fail
                refine (p_write_at HST.out.lp false 1 rfl _ _ _ _ hGV.out y f rfl rfl).mono ?_
                rintro e5 w5 ⟨rfl, F5, hp5, hk5, hs5⟩
                have HN := Lib.hid (Bx.back HST.out hCF hCG HC.out hp5 hk5 hs5)
                clear hp5 hk5 hs5 HBX
                go_wp2_with fail
                go_meet
                exact HN.out
              · have z0 : (kd2 == 0) = false := by simpa using k0
                by_cases k1 : kd2 = 1
                · subst k1
                  go_wp2_with fail
                  refine (p_read_at HST.out.lp false 0 rfl nn2 y f rfl rfl).mono ?_
                  rintro e5 w5 ⟨sp5, sc5, rfl, hown5, hp5, hk5⟩
                  have HN := Lib.hid (Bx.back HST.out hCF hCG HC.out hp5 hk5 (fun _ h => .inl h))
                  clear hp5 hk5 hown5 HBX
                  go_wp2_with fail
                  go_meet
                  exact HN.out
                · have z1 : (kd2 == 1) = false := by simpa using k1
                  by_cases k2 : kd2 = 2
                  · subst k2
                    go_wp2_with fail
                    refine (p_hang HST.out.lp false 1 rfl).mono ?_
                    rintro e5 w5 ⟨rfl, hp5, hk5⟩
                    have HN := Lib.hid (Bx.back HST.out hCF hCG HC.out hp5 hk5 (fun _ h => .inl h))
                    clear hp5 hk5 HBX
                    go_wp2_with fail
                    go_meet
                    exact HN.out
                  · have z2 : (kd2 == 2) = false := by simpa using k2
                    go_wp2_with fail
                    go_meet
                    exact HBX.out
            · go_wp2_with fail
              go_meet
              exact HBX.out
          case rest =>
          clear HBX HB1 d0 d1 d2 d3
          obtain ⟨x, e, y, z, f, g, F, G, hst, hCF, hCG, hC⟩ := hcut
          have g0 : wc.cell? ⟨C, 0, none⟩ = some (.int .i64 kd) := cell_at hC 0
          have g2 : wc.cell? ⟨C, 2, none⟩ = some (.int .i64 nn) := cell_at hC 2
          have g3 : wc.cell? ⟨C, 3, none⟩ = some (.slice la ln lc) := cell_at hC 3
          have HST := Lib.hid hst
          have HC := Lib.hid hC
          clear hst hC
          go_upto_block 3 with fail
          go_cut [] (fun w' => Any w w' B p q N)
          case first =>
            have hGV : Hid (∀ w' : World, Below B wc w' → ∀ F, Fresh B w w' F → qb.GivenIn w' F la ln lc ll) := fun w' _ F hf => IsBytes.given HL.out (by rw [hB]; exact hf.1) (by rw [hB]; exact hf.2)
            by_cases k0 : kd = 0
            · subst k0
              go_wp2_with fail
              refine wp_region_noPanic ?_
              refine wp_region_held_drew (S := fun w' => w'.cell? ⟨C, 3, none⟩ = some (.slice la ln lc)) (by kernel_rfl) (g3) (fun hHeld => ?_)
              refine wpAnyH_take (i := 0) (oi := ⟨some 95, _, _, _, _, _⟩) (v := ?_) rfl (by kernel_rfl) (by kernel_rfl) (by kernel_rfl) (fun _ _ _ h => h) (Or.inl ⟨by rfl, ?_⟩) hHeld ?_
              rotate_left
              · intro w hSw; (try dsimp only at hSw); go_simp; try with_reducible rfl
              try simp only [Act.put, List.setIfInBounds_toArray, List.set_cons_zero, List.set_cons_succ]
              refine wpAnyH_take (i := 1) (oi := ⟨some 96, _, _, _, _, _⟩) (v := ?_) rfl (by kernel_rfl) (by kernel_rfl) (by kernel_rfl) (fun _ _ _ h => h) (Or.inl ⟨by rfl, ?_⟩) hHeld ?_
              rotate_left
              · intro w hSw; (try dsimp only at hSw); go_simp; try with_reducible rfl
              try simp only [Act.put, List.setIfInBounds_toArray, List.set_cons_zero, List.set_cons_succ]
              refine wpAnyH_take (i := 2) (oi := ⟨some 97, _, _, _, _, _⟩) (v := ?_) rfl (by kernel_rfl) (by kernel_rfl) (by kernel_rfl) (fun _ _ _ h => h) (Or.inl ⟨by rfl, ?_⟩) hHeld ?_
              rotate_left
              · intro w hSw; (try dsimp only at hSw); go_simp; try with_reducible rfl
              try simp only [Act.put, List.setIfInBounds_toArray, List.set_cons_zero, List.set_cons_succ]
              refine wpAnyH_take (i := 4) (oi := ⟨some 99, _, _, _, _, _⟩) (v := ?_) rfl (by kernel_rfl) (by kernel_rfl) (by kernel_rfl) (fun _ _ _ h => h) (Or.inl ⟨by rfl, ?_⟩) hHeld ?_
              rotate_left
              · intro w hSw; (try dsimp only at hSw); go_simp; try with_reducible rfl
              try simp only [Act.put, List.setIfInBounds_toArray, List.set_cons_zero, List.set_cons_succ]
              refine wpAnyH_take (i := 5) (oi := ⟨some 100, _, _, _, _, _⟩) (v := ?_) rfl (by kernel_rfl) (by kernel_rfl) (by kernel_rfl) (fun _ _ _ h => h) (Or.inl ⟨by rfl, ?_⟩) hHeld ?_
              rotate_left
              · intro w hSw; (try dsimp only at hSw); go_simp; try with_reducible rfl
              try simp only [Act.put, List.setIfInBounds_toArray, List.set_cons_zero, List.set_cons_succ]
              refine wpAnyH_take (i := 6) (oi := ⟨some 101, _, _, _, _, _⟩) (v := ?_) rfl (by kernel_rfl) (by kernel_rfl) (by kernel_rfl) (fun _ _ _ h => h) (Or.inl ⟨by rfl, ?_⟩) hHeld ?_
              rotate_left
              · intro w hSw; (try dsimp only at hSw); go_simp; try with_reducible rfl
              try simp only [Act.put, List.setIfInBounds_toArray, List.set_cons_zero, List.set_cons_succ]
              refine wpAnyH_ready (rs := [3]) (by kernel_rfl) (by simp) (AllReadyH.cons (o := ⟨some 98, _, _, _, _, _⟩) rfl (fun K hK => ?_) AllReadyH.nil)
              go_simp
              refine (p_write_at (HST.out.drewN 1).lp true 0 rfl la ln lc ll (hGV.out _ (below_drewN (Below.refl _ _) 1) _ (HST.out.drewN 1).fp) x e rfl rfl).mono ?_; rintro e3 w3 ⟨rfl, F3, hp3, hk3, hs3⟩; have hC3 := (hk3.block C (Array.getElem?_eq_some_iff.1 HC.out).1 hCF).trans HC.out; have c3 : w3.cell? ⟨C, 3, none⟩ = some (.slice la ln lc) := cell_at hC3 3; have hf3 := (HST.out.drewN 1).fp.keeps (HST.out.drewN 1).sz hk3 hs3; have hg3 := fresh_other (HST.out.drewN 1).fq (HST.out.drewN 1).fp (HST.out.drewN 1).sz hk3; have HP3 := Lib.hid hp3; have HK3 := Lib.hid hk3; have HS3 : Hid _ := hs3; have HG3 := Lib.hid hg3; clear hp3 hk3 hs3 hf3 hC3 hg3
              refine hK.out _ _ (c3) (fun hHeld => ?_)
              clear hK K
              try simp only [Act.put, List.setIfInBounds_toArray, List.set_cons_zero, List.set_cons_succ]
              refine wpAnyH_ready (rs := [7]) (by kernel_rfl) (by simp) (AllReadyH.cons (o := ⟨some 102, _, _, _, _, _⟩) rfl (fun K hK => ?_) AllReadyH.nil)
              go_simp
              refine (p_write_at ((HST.out.drewN 1).qp HK3.out) true 0 rfl la ln lc ll (IsBytes.given HL.out (by rw [hB]; exact HG3.out.1) (by rw [hB]; exact HG3.out.2)) x e rfl rfl).mono ?_; rintro e4 w4 ⟨rfl, G4, hq4, hk4, hs4⟩; have HN := Lib.hid ((HST.out.drewN 1).both HP3.out HK3.out HS3.out ((HST.out.drewN 1).two HP3.out HS3.out hk4) hq4 hk4 hs4); have c4 : w4.cell? ⟨C, 3, none⟩ = some (.slice la ln lc) := (cell_keeps hk4 c3 hCG); clear hq4 hk4 hs4
              refine hK.out _ _ (c4) (fun hHeld => ?_)
              clear hK K
              try simp only [Act.put, List.setIfInBounds_toArray, List.set_cons_zero, List.set_cons_succ]
              refine wpAnyH_take (i := 8) (oi := ⟨some 103, _, _, _, _, _⟩) (v := ?_) rfl (by kernel_rfl) (by kernel_rfl) (by kernel_rfl) (fun _ _ _ h => h) (Or.inl ⟨by rfl, ?_⟩) hHeld ?_
              rotate_left
              · intro w hSw; (try dsimp only at hSw); go_simp; try with_reducible rfl
              try simp only [Act.put, List.setIfInBounds_toArray, List.set_cons_zero, List.set_cons_succ]
              refine wpAnyH_done (by kernel_rfl) ?_ _
              refine NoPanic.normal ?_
              go_wp2_with fail
              go_meet
              exact ⟨_, _, _, _, _, _, _, _, HN.out⟩
            · have z0 : (kd == 0) = false := by simpa using k0
              by_cases k1 : kd = 1
              · subst k1
                have hlt2 : ∀ k, count nn k ≤ k := count_le nn
                clear g0 g3 hlt2
                obtain ⟨c, hc⟩ : ∃ c, count nn x.length = c := ⟨_, rfl⟩
                have HCC := Lib.hid hc
                clear hc
                go_wp2_with fail
                refine wp_region_noPanic ?_
                refine wp_region_held_drew (S := fun w' => w'.cell? ⟨C, 2, none⟩ = some (.int .i64 nn)) (by kernel_rfl) (g2) (fun hHeld => ?_)
                refine wpAnyH_take (i := 0) (oi := ⟨some 106, _, _, _, _, _⟩) (v := ?_) rfl (by kernel_rfl) (by kernel_rfl) (by kernel_rfl) (fun _ _ _ h => h) (Or.inl ⟨by rfl, ?_⟩) hHeld ?_
                rotate_left
                · intro w hSw; (try dsimp only at hSw); go_simp; try with_reducible rfl
                try simp only [Act.put, List.setIfInBounds_toArray, List.set_cons_zero, List.set_cons_succ]
                refine wpAnyH_take (i := 1) (oi := ⟨some 107, _, _, _, _, _⟩) (v := ?_) rfl (by kernel_rfl) (by kernel_rfl) (by kernel_rfl) (fun _ _ _ h => h) (Or.inl ⟨by rfl, ?_⟩) hHeld ?_
                rotate_left
                · intro w hSw; (try dsimp only at hSw); go_simp; try with_reducible rfl
                try simp only [Act.put, List.setIfInBounds_toArray, List.set_cons_zero, List.set_cons_succ]
                refine wpAnyH_take (i := 2) (oi := ⟨some 108, _, _, _, _, _⟩) (v := ?_) rfl (by kernel_rfl) (by kernel_rfl) (by kernel_rfl) (fun _ _ _ h => h) (Or.inl ⟨by rfl, ?_⟩) hHeld ?_
                rotate_left
                · intro w hSw; (try dsimp only at hSw); go_simp; try with_reducible rfl
                try simp only [Act.put, List.setIfInBounds_toArray, List.set_cons_zero, List.set_cons_succ]
                refine wpAnyH_take (i := 5) (oi := ⟨some 111, _, _, _, _, _⟩) (v := ?_) rfl (by kernel_rfl) (by kernel_rfl) (by kernel_rfl) (fun _ _ _ h => h) (Or.inl ⟨by rfl, ?_⟩) hHeld ?_
                rotate_left
                · intro w hSw; (try dsimp only at hSw); go_simp; try with_reducible rfl
                try simp only [Act.put, List.setIfInBounds_toArray, List.set_cons_zero, List.set_cons_succ]
                refine wpAnyH_take (i := 6) (oi := ⟨some 112, _, _, _, _, _⟩) (v := ?_) rfl (by kernel_rfl) (by kernel_rfl) (by kernel_rfl) (fun _ _ _ h => h) (Or.inl ⟨by rfl, ?_⟩) hHeld ?_
                rotate_left
                · intro w hSw; (try dsimp only at hSw); go_simp; try with_reducible rfl
                try simp only [Act.put, List.setIfInBounds_toArray, List.set_cons_zero, List.set_cons_succ]
                refine wpAnyH_take (i := 7) (oi := ⟨some 113, _, _, _, _, _⟩) (v := ?_) rfl (by kernel_rfl) (by kernel_rfl) (by kernel_rfl) (fun _ _ _ h => h) (Or.inl ⟨by rfl, ?_⟩) hHeld ?_
                rotate_left
                · intro w hSw; (try dsimp only at hSw); go_simp; try with_reducible rfl
                try simp only [Act.put, List.setIfInBounds_toArray, List.set_cons_zero, List.set_cons_succ]
                refine wpAnyH_ready (rs := [3]) (by kernel_rfl) (by simp) (AllReadyH.cons (o := ⟨some 109, _, _, _, _, _⟩) rfl (fun K hK => ?_) AllReadyH.nil)
                go_simp
                refine (p_read_at (HST.out.drewN 1).lp true 1 rfl nn x e rfl rfl).mono ?_; rw [HCC.out]; rintro e3 w3 ⟨sp3, sc3, rfl, hown3, hp3, hk3⟩; have c3 : w3.cell? ⟨C, 2, none⟩ = some (.int .i64 nn) := cell_keeps hk3 (show (wc.drewN 1).cell? ⟨C, 2, none⟩ = _ from g2) hCF; have v3 := conv_own hown3; have u3 : ∀ w' : World, Keeps G w3 w' → (convert 22 9 (.slice sp3 c sc3)).run Tryd.prog w' = .ok (.string (strOfNums (x.take c))) w' := (fun w' hk => conv_own (own_keeps hown3 hk (fun k e hm => by have := (hown3.lt k e).1; have h2 := (HST.out.drewN 1).lq.lt k hm; omega))); have U3 : Hid _ := u3; have HP3 := Lib.hid hp3; have HK3 := Lib.hid hk3; clear hown3 hp3 hk3 u3
                refine hK.out _ _ (c3) (fun hHeld => ?_)
                clear hK K
                try simp only [Act.put, List.setIfInBounds_toArray, List.set_cons_zero, List.set_cons_succ]
                refine wpAnyH_ready (rs := [4, 8]) (by kernel_rfl) (by simp) (AllReadyH.cons (o := ⟨some 110, _, _, _, _, _⟩) rfl (fun K hK => ?_) (AllReadyH.cons (o := ⟨some 114, _, _, _, _, _⟩) rfl (fun K hK => ?_) AllReadyH.nil))
                · go_simp
                  refine hK.out _ _ (c3) (fun hHeld => ?_)
                  clear hK K
                  try simp only [Act.put, List.setIfInBounds_toArray, List.set_cons_zero, List.set_cons_succ]
                  refine wpAnyH_ready (rs := [8]) (by kernel_rfl) (by simp) (AllReadyH.cons (o := ⟨some 114, _, _, _, _, _⟩) rfl (fun K hK => ?_) AllReadyH.nil)
                  go_simp
                  refine (p_read_at ((HST.out.drewN 1).qp HK3.out) true 1 rfl nn x e rfl rfl).mono ?_; rw [HCC.out]; rintro e4 w4 ⟨sp4, sc4, rfl, hown4, hq4, hk4⟩; have c4 : w4.cell? ⟨C, 2, none⟩ = some (.int .i64 nn) := cell_keeps hk4 c3 hCG; have v4 := conv_own hown4; have v5 := U3.out w4 hk4; have HN := Lib.hid ((HST.out.drewN 1).both HP3.out HK3.out (fun _ h => .inl h) ((HST.out.drewN 1).two HP3.out (fun _ h => .inl h) hk4) hq4 hk4 (fun _ h => .inl h)); clear hown4 hq4 hk4
                  refine hK.out _ _ (c4) (fun hHeld => ?_)
                  clear hK K
                  try simp only [Act.put, List.setIfInBounds_toArray, List.set_cons_zero, List.set_cons_succ]
                  refine wpAnyH_ready (rs := [9]) (by kernel_rfl) (by simp) (AllReadyH.cons (o := ⟨some 115, _, _, _, _, _⟩) rfl (fun K hK => ?_) AllReadyH.nil)
                  go_simp
                  refine hK.out _ _ (c4) (fun hHeld => ?_)
                  clear hK K
                  try simp only [Act.put, List.setIfInBounds_toArray, List.set_cons_zero, List.set_cons_succ]
                  refine wpAnyH_take (i := 10) (oi := ⟨some 116, _, _, _, _, _⟩) (v := ?_) rfl (by kernel_rfl) (by kernel_rfl) (by kernel_rfl) (fun _ _ _ h => h) (Or.inl ⟨by rfl, ?_⟩) hHeld ?_
                  rotate_left
                  · intro w hSw; (try dsimp only at hSw); go_simp; try with_reducible rfl
                  try simp only [Act.put, List.setIfInBounds_toArray, List.set_cons_zero, List.set_cons_succ]
                  refine wpAnyH_done (by kernel_rfl) ?_ _
                  refine NoPanic.normal ?_
                  go_wp2_with fail
                  go_meet
                  exact ⟨_, _, _, _, _, _, _, _, HN.out⟩
                · go_simp
                  refine (p_read_at ((HST.out.drewN 1).qp HK3.out) true 1 rfl nn x e rfl rfl).mono ?_; rw [HCC.out]; rintro e4 w4 ⟨sp4, sc4, rfl, hown4, hq4, hk4⟩; have c4 : w4.cell? ⟨C, 2, none⟩ = some (.int .i64 nn) := cell_keeps hk4 c3 hCG; have v4 := conv_own hown4; have v5 := U3.out w4 hk4; have HN := Lib.hid ((HST.out.drewN 1).both HP3.out HK3.out (fun _ h => .inl h) ((HST.out.drewN 1).two HP3.out (fun _ h => .inl h) hk4) hq4 hk4 (fun _ h => .inl h)); clear hown4 hq4 hk4
                  refine hK.out _ _ (c4) (fun hHeld => ?_)
                  clear hK K
                  try simp only [Act.put, List.setIfInBounds_toArray, List.set_cons_zero, List.set_cons_succ]
                  refine wpAnyH_ready (rs := [4, 9]) (by kernel_rfl) (by simp) (AllReadyH.cons (o := ⟨some 110, _, _, _, _, _⟩) rfl (fun K hK => ?_) (AllReadyH.cons (o := ⟨some 115, _, _, _, _, _⟩) rfl (fun K hK => ?_) AllReadyH.nil))
                  · go_simp
                    refine hK.out _ _ (c4) (fun hHeld => ?_)
                    clear hK K
                    try simp only [Act.put, List.setIfInBounds_toArray, List.set_cons_zero, List.set_cons_succ]
                    refine wpAnyH_ready (rs := [9]) (by kernel_rfl) (by simp) (AllReadyH.cons (o := ⟨some 115, _, _, _, _, _⟩) rfl (fun K hK => ?_) AllReadyH.nil)
                    go_simp
                    refine hK.out _ _ (c4) (fun hHeld => ?_)
                    clear hK K
                    try simp only [Act.put, List.setIfInBounds_toArray, List.set_cons_zero, List.set_cons_succ]
                    refine wpAnyH_take (i := 10) (oi := ⟨some 116, _, _, _, _, _⟩) (v := ?_) rfl (by kernel_rfl) (by kernel_rfl) (by kernel_rfl) (fun _ _ _ h => h) (Or.inl ⟨by rfl, ?_⟩) hHeld ?_
                    rotate_left
                    · intro w hSw; (try dsimp only at hSw); go_simp; try with_reducible rfl
                    try simp only [Act.put, List.setIfInBounds_toArray, List.set_cons_zero, List.set_cons_succ]
                    refine wpAnyH_done (by kernel_rfl) ?_ _
                    refine NoPanic.normal ?_
                    go_wp2_with fail
                    go_meet
                    exact ⟨_, _, _, _, _, _, _, _, HN.out⟩
                  · go_simp
                    refine hK.out _ _ (c4) (fun hHeld => ?_)
                    clear hK K
                    try simp only [Act.put, List.setIfInBounds_toArray, List.set_cons_zero, List.set_cons_succ]
                    refine wpAnyH_ready (rs := [4]) (by kernel_rfl) (by simp) (AllReadyH.cons (o := ⟨some 110, _, _, _, _, _⟩) rfl (fun K hK => ?_) AllReadyH.nil)
                    go_simp
                    refine hK.out _ _ (c4) (fun hHeld => ?_)
                    clear hK K
                    try simp only [Act.put, List.setIfInBounds_toArray, List.set_cons_zero, List.set_cons_succ]
                    refine wpAnyH_take (i := 10) (oi := ⟨some 116, _, _, _, _, _⟩) (v := ?_) rfl (by kernel_rfl) (by kernel_rfl) (by kernel_rfl) (fun _ _ _ h => h) (Or.inl ⟨by rfl, ?_⟩) hHeld ?_
                    rotate_left
                    · intro w hSw; (try dsimp only at hSw); go_simp; try with_reducible rfl
                    try simp only [Act.put, List.setIfInBounds_toArray, List.set_cons_zero, List.set_cons_succ]
                    refine wpAnyH_done (by kernel_rfl) ?_ _
                    refine NoPanic.normal ?_
                    go_wp2_with fail
                    go_meet
                    exact ⟨_, _, _, _, _, _, _, _, HN.out⟩
              · have z1 : (kd == 1) = false := by simpa using k1
                by_cases k2 : kd = 2
                · subst k2
                  go_wp2_with fail
                  refine (p_hang HST.out.lp true 0 rfl).mono ?_
                  rintro e5 w5 ⟨rfl, hp5, hk5⟩
                  have hq5 := HST.out.qp hk5
                  have HP5 := Lib.hid hp5
                  have HK5 := Lib.hid hk5
                  have HQ5 := Lib.hid hq5
                  clear hp5 hk5 hq5 g0 g2 g3
                  go_wp2_with fail
                  refine (p_hang HQ5.out true 0 rfl).mono ?_
                  rintro e6 w6 ⟨rfl, hq6, hk6⟩
                  have HN := Lib.hid (HST.out.both HP5.out HK5.out (fun _ h => .inl h) (HST.out.two HP5.out (fun _ h => .inl h) hk6) hq6 hk6 (fun _ h => .inl h))
                  clear hq6 hk6
                  go_wp2_with fail
                  go_meet
                  exact ⟨_, _, _, _, _, _, _, _, HN.out⟩
                · have z2 : (kd == 2) = false := by simpa using k2
                  go_wp2_with fail
                  go_meet
                  exact ⟨_, _, _, _, _, _, _, _, HST.out⟩
          case rest =>
          clear HST HC g0 g2 g3
          obtain ⟨x, e, y, z, f, g, F, G, hst⟩ := hcut
          have HST := Lib.hid hst
          clear hst
          obtain ⟨o, hov⟩ : ∃ o, (e && decide (x.length = 0)) = o := ⟨_, rfl⟩
          obtain ⟨r, hro⟩ : ∃ r, roomOf x.length N e = r := ⟨_, rfl⟩
          have HOV := Lib.hid hov
          have HRO := Lib.hid hro
          clear hov hro
          go_wp2_with fail
          refine (p_over HST.out.lp true 1 rfl o HOV.out).mono ?_
          rintro e5 w5 ⟨rfl, rfl⟩
          go_wp2_with fail
          refine (p_over HST.out.lq true 1 rfl o HOV.out).mono ?_
          rintro e5 w5 ⟨rfl, rfl⟩
          go_wp2_with fail
          refine (p_room HST.out.lp true 0 rfl r HRO.out).mono ?_
          rintro e5 w5 ⟨rfl, k5, rfl⟩
          go_wp2_with fail
          refine (p_room (HST.out.drewN k5).lq true 0 rfl r HRO.out).mono ?_
          rintro e5 w5 ⟨rfl, k6, rfl⟩
          go_wp2_with fail
          go_roundg (len1 - (i + 1))
          case measure => omega
          case rel => exact ⟨i + 1, by omega, by go_num, _, _, _, _, _, _, _, _, HST.out.drewN (k5 + k6)⟩
        · obtain ⟨_, _, _, _, _, _, _, _, hst⟩ := hany
          have hin : i = len1 := by omega
          subst hin
          go_wp2_with fail
          go_ret
          rw [hB]
          exact ⟨rfl, hst.fp.1⟩
end Go.Proofs.YthpdphbppapkhaaDoor.ptyWays
