/-
  The walk of PtyActs. Condition: the table 'other' reads as the program's text lays it.
-/
import Derived.Test.YthpdphbppapkhaaDoorRefPty
import Derived.BigQuiet
import Derived.RegionTactic
import Derived.Deep.RegionHeld3
namespace Go.Proofs.YthpdphbppapkhaaDoor.ptyActs
open Go.RowKit qb

attribute [local go_sem] Oper.semAt_some

/-- All that lies in a line are bytes. -/
def Bts (s : Line) : Prop := ∀ j z, z ∈ s.x j → U8 z

theorem Bts.set {s : Line} (h : Bts s) (j : Bool) (l : List Int) (e : Bool) (hl : ∀ z, z ∈ l → U8 z) : Bts (s.set j l e) := by
  intro i z hz
  have h0 := h false z
  have h1 := h true z
  cases i <;> cases j <;> simp only [Line.set, Line.x, if_true, Bool.false_eq_true, if_false] at hz h0 h1 ⊢
  · exact hl z hz
  · exact h0 hz
  · exact h1 hz
  · exact hl z hz

theorem u8_app {a b : List Int} (ha : ∀ z, z ∈ a → U8 z) (hb : ∀ z, z ∈ b → U8 z) : ∀ z, z ∈ a ++ b → U8 z := fun z h => (List.mem_append.1 h).elim (ha z) (hb z)
theorem u8_take {a : List Int} (ha : ∀ z, z ∈ a → U8 z) (k : Nat) : ∀ z, z ∈ a.take k → U8 z := fun z h => ha z (List.mem_of_mem_take h)
theorem u8_drop {a : List Int} (ha : ∀ z, z ∈ a → U8 z) (k : Nat) : ∀ z, z ∈ a.drop k → U8 z := fun z h => ha z (List.mem_of_mem_drop h)

theorem bytes_u8 {w : World} {a : Option Addr} {n cap : Nat} {zs : List Int} (h : IsBytes w a n cap zs) : ∀ z, z ∈ zs → U8 z := by
  obtain ⟨_, _, h3, h4⟩ := h
  intro z hz
  obtain ⟨i, hi, rfl⟩ := List.getElem_of_mem hz
  obtain ⟨_, _, _, _, _, hu⟩ := h4 i (by omega)
  simpa [List.getD_eq_getElem?_getD, hi] using hu

/-- What holds round by round: the line and the document's, alike and apart. -/
structure St (w0 wr : World) (B p m N : Nat) (s : Line) (F G : List Nat) : Prop where
  lp : IsP wr p F N s
  lm : RefP wr m G N s
  fp : Fresh B w0 wr F
  fm : ∀ k, k ∈ G → B ≤ k
  dis : ∀ k, k ∈ F → k ∉ G
  sz : B ≤ wr.heap.size
  pos : 0 < B
  bt : Bts s

section
variable {w0 wr w' : World} {B p m N : Nat} {s s' : Line} {F G F' G' : List Nat}

theorem St.below (h : St w0 wr B p m N s F G) (hb : Below wr.heap.size wr w') : St w0 w' B p m N s F G :=
  ⟨h.lp.below hb (Nat.le_refl _), h.lm.below hb (Nat.le_refl _), h.fp.keeps h.sz (Keeps.of_below hb F) (fun _ h => .inl h), h.fm, h.dis, Nat.le_trans h.sz hb.size, h.pos, h.bt⟩

theorem St.alloc (h : St w0 wr B p m N s F G) (o : Obj) : St w0 (wr.alloc o) B p m N s F G :=
  h.below ((Below.refl _ _).alloc (Nat.le_refl _) _)

theorem St.drewN (h : St w0 wr B p m N s F G) (k : Nat) : St w0 (wr.drewN k) B p m N s F G :=
  h.below (below_drewN (Below.refl _ _) k)

theorem St.zero (h : St w0 wr B p m N s F G) : 0 ∉ G := fun hm => by have := h.fm 0 hm; have := h.pos; omega

/-- The document's line, behind a call of the first one. -/
theorem St.mid (h : St w0 wr B p m N s F G) (hk : Keeps F wr w') : RefP w' m G N s := h.lm.keeps hk (fun k hk hf => h.dis k hf hk)

/-- Behind the same call on both. -/
theorem St.both {w1 w2 : World} (h : St w0 wr B p m N s F G) (hp : IsP w1 p F' N s') (hk : Keeps F wr w1) (hs : ∀ k, k ∈ F' → k ∈ F ∨ wr.heap.size ≤ k)
    (hm : RefP w2 m G' N s') (hk2 : Keeps G w1 w2) (hs2 : ∀ k, k ∈ G' → k ∈ G ∨ w1.heap.size ≤ k) (hb : Bts s') : St w0 w2 B p m N s' F' G' := by
  have hB1 := Nat.le_trans h.sz hk.size
  have f1 := h.fp.keeps h.sz hk hs
  have dg : ∀ k, k ∈ F' → k ∉ G := fun k h1 h2 => by
    rcases hs k h1 with h' | h'
    · exact h.dis k h' h2
    · have := h.lm.lt k h2; omega
  have fg : Fresh B w0 w1 G := ⟨f1.1, h.fm⟩
  have f2 := fg.keeps hB1 hk2 hs2
  refine ⟨hp.keeps hk2 dg h.zero, hm, ⟨f2.1, f1.2⟩, f2.2, fun k h1 h2 => ?_, Nat.le_trans hB1 hk2.size, h.pos, hb⟩
  have hlt := hp.lt k h1
  rcases hs2 k h2 with h' | h'
  · exact dg k h1 h'
  · omega
end

/-- Behind a store of the end of side j's queue. -/
theorem ref_end {w : World} {m : Nat} {G : List Nat} {n : Nat} {s : Line} (h : RefP w m G n s) (j : Bool) : ∃ q, w.cell? ⟨m, if j then 1 else 0, none⟩ = some (.pointer (some ⟨q, 0, none⟩)) ∧ w.frozen? ⟨q, 2, none⟩ = false ∧ w.cell? ⟨q, 2, none⟩ = some (.bool (s.e j)) ∧
    ∃ G', RefP (w.setCell ⟨q, 2, none⟩ (.bool true)) m G' n (s.set j (s.x j) true) ∧ Keeps G w (w.setCell ⟨q, 2, none⟩ (.bool true)) ∧ ∀ k, k ∈ G' → k ∈ G ∨ w.heap.size ≤ k := by
  obtain ⟨q, Gq, c0, hq, hsub, hset⟩ := h.way j
  obtain ⟨sp, sc, d0, d2, f2⟩ := hq.cells
  refine ⟨q, c0, f2, d2, hset _ Gq _ _ ?_ ?_ (fun _ h => .inl h)⟩
  · obtain ⟨v, hm, rfl, ho, h1, h2⟩ := hq
    refine ⟨v, heap_setCell_same w q 2 _ _ _ hm, rfl, ownsRow_setCell_other ho (fun e => ref_apart hm ho e) _, h1, h2⟩
  · obtain ⟨v, hm, rfl, ho, h1, h2⟩ := hq
    exact ⟨rfl, rfl, rfl, by simp, fun k hk hn => heap_setCell_other _ _ _ _ (fun e => hn (by simp [e]))⟩

/-- Whatever the round: some state holds. -/
def Any (w0 wr : World) (B p m N : Nat) : Prop := ∃ s F G, St w0 wr B p m N s F G

set_option maxRecDepth 100000 in
set_option maxHeartbeats 20000000 in
theorem walk (a0 : Int) (a1 : Option Addr) (len1 cap1 : Nat) (acts : List Act) (w : World) (_h0 : I64 a0) (h1 : IsActs w a1 len1 cap1 acts) (ho : Oth w) :
    Calls Tryd.prog 6 #[.int .i64 a0, .slice a1 len1 cap1] w fun e w' => e = .returned (.bool true) ∧ Below w.heap.size w w' := by
  have HO := Lib.hid ho
  have HG := Lib.hid h1
  clear ho h1
  by_cases hg : isGreat 100 acts = true
  · go_enter Tryd.func6, Tryd.ntmps6
    go_wp2_with fail
    refine (alive_any w HO.out).mono ?_
    rintro e w1 ⟨rfl, hb1⟩
    go_wp2_with fail
    refine (great_any a1 len1 cap1 acts w1 (IsActs.below HG.out hb1)).mono ?_
    rintro e w2 ⟨rfl, hb2⟩
    rw [hg]
    go_wp2_with fail
    refine (alive_any w2 ((HO.out.below hb1 (Nat.le_refl _)).below hb2 (Nat.le_refl _))).mono ?_
    rintro e w3 ⟨rfl, hb3⟩
    go_wp2_with fail
    go_ret
    exact ⟨rfl, (hb1.trans (hb2.mono hb1.size)).trans (hb3.mono (Nat.le_trans hb1.size hb2.size))⟩
  · obtain ⟨B, hB⟩ : ∃ B, w.heap.size = B := ⟨_, rfl⟩
    go_enter Tryd.func6, Tryd.ntmps6
    go_wp2_with fail
    refine (alive_any w HO.out).mono ?_
    rintro e w1 ⟨rfl, hb1⟩
    go_wp2_with fail
    refine (great_any a1 len1 cap1 acts w1 (IsActs.below HG.out hb1)).mono ?_
    rintro e w2 ⟨rfl, hb2⟩
    have hlen : len1 ≤ 100 := by
      have h3 := HG.out.2.2.1
      have := hg
      unfold isGreat at this
      simp at this
      omega
    have hll : ∀ act, act ∈ acts → act.l.length ≤ 100 := by
      intro act hm
      have := hg
      unfold isGreat at this
      simp at this
      exact this.2 act hm
    have HLL : Hid _ := hll
    rw [Bool.not_eq_true] at hg
    rw [hg]
    have ho2 : Oth w2 := (HO.out.below hb1 (Nat.le_refl _)).below hb2 (Nat.le_refl _)
    have hb12 : Below B w w2 := by rw [← hB]; exact hb1.trans (hb2.mono hb1.size)
    have HO2 := Lib.hid ho2
    have HB2 := Lib.hid hb12
    clear hg hll ho2 hb12 hb1 hb2
    go_upto_region 3 with fail
    go_cut [5] (fun v5 w' => ∃ n : Nat, 1 ≤ n ∧ n ≤ 30 ∧ v5 = .int .i64 n ∧ w2 = w')
    case first =>
      go_wp2_with fail
      all_goals (go_meet; first | exact ⟨(1 + a0 % 30).toNat, by omega, by omega, congrArg (Value.int .i64) (by omega), rfl⟩ | exact ⟨1, by omega, by omega, rfl, rfl⟩)
    case rest =>
    obtain ⟨N, hN1, hN2, rfl, rfl⟩ := hcut
    go_wp2_with fail
    refine (p_new N (by omega) (by omega) w2 HO2.out).mono ?_
    rintro e w4 ⟨p, F, rfl, hp, hb4, hF⟩
    rw [Int.toNat_natCast] at hp
    have HP := Lib.hid hp
    have HB4 := Lib.hid hb4
    have HF : Hid _ := hF
    clear hp hb4 hF
    go_wp2_with fail
    refine (ref_new N (by omega) (by omega) w4).mono ?_
    rintro e w5 ⟨m, G, rfl, hq, hb5, hG⟩
    rw [Int.toNat_natCast] at hq
    have hst : Any w w5 B p m N := by
      have s3 : B ≤ w2.heap.size := by have := HB2.out.size; omega
      have b4 : Below B w w4 := HB2.out.trans (HB4.out.mono s3)
      have s4 : B ≤ w4.heap.size := by have := b4.size; omega
      have b5 : Below B w w5 := b4.trans (hb5.mono s4)
      refine ⟨_, F, G, HP.out.below hb5 (Nat.le_refl _), hq, ⟨b5, fun k hk => Nat.le_trans s3 (HF.out k hk)⟩, fun k hk => Nat.le_trans s4 (hG k hk), fun k h1 h2 => by have := HP.out.lt k h1; have := hG k h2; omega, by have := b5.size; omega, by rw [← hB]; exact HO.out.pos, ?_⟩
      intro j z hz
      cases j <;> cases hz
    have HA : Hid (∀ i, i < len1 → ∃ b off act, a1 = some ⟨b, off, none⟩ ∧ b < w.heap.size ∧ acts[i]? = some act ∧ IsAct w b (off + i * 4) act) := HG.out.2.2.2
    have hcap : len1 ≤ cap1 := HG.out.1
    have hcm := HG.out.2.1
    unfold maxLen at hcm
    clear HP HF HG HB4 hb5 hq hG HB2 HO2
    go_wp2_with fail
    go_loopg [38] len1 (fun g v38 wr => ∃ i : Nat, i + g = len1 ∧ v38 = .int .i64 i ∧ Any w wr B p m N)
    case atStart => exact ⟨0, by omega, rfl, hst⟩
    case round =>
      clear hst
      obtain ⟨i, hi, rfl, s, F, G, hst⟩ := hrel
      by_cases hlt : i < len1
      · obtain ⟨ab, ao, ⟨kd, sdv, nn, ll⟩, rfl, hab, hact, la, ln, lc, c0, c1, c2, c3, hl, _⟩ := HA.out i hlt
        have hbel := hst.fp.1
        rw [← hB] at hbel
        have d0 := (hbel.cell (p := ⟨ab, ao + i * 4, none⟩) hab).trans c0
        have d1 := (hbel.cell (p := ⟨ab, ao + i * 4 + 1, none⟩) hab).trans c1
        have d2 := (hbel.cell (p := ⟨ab, ao + i * 4 + 2, none⟩) hab).trans c2
        have d3 := (hbel.cell (p := ⟨ab, ao + i * 4 + 3, none⟩) hab).trans c3
        have HL := Lib.hid hl
        have HUL := Lib.hid (bytes_u8 hl)
        have hlnn : ll.length = ln := hl.2.2.1
        have hln : ln ≤ 100 := by rw [← hlnn]; exact HLL.out _ (List.mem_of_getElem? hact)
        have HLN := Lib.hid hln
        have HST := Lib.hid (hst.alloc (.cells #[.int .i64 kd, .int .i64 sdv, .int .i64 nn, .slice la ln lc] 38))
        obtain ⟨C, hC⟩ : ∃ C, wr.heap.size = C := ⟨_, rfl⟩
        obtain ⟨W1, hW1⟩ : ∃ W1, wr.alloc (.cells #[.int .i64 kd, .int .i64 sdv, .int .i64 nn, .slice la ln lc] 38) = W1 := ⟨_, rfl⟩
        have hbox : W1.heap[C]? = some (.cells #[.int .i64 kd, .int .i64 sdv, .int .i64 nn, .slice la ln lc] 38 (0, 0)) := by rw [← hW1, ← hC]; exact heap_alloc_new wr _
        rw [hW1] at HST
        have HBOX := Lib.hid hbox
        have g0 : W1.cell? ⟨C, 0, none⟩ = some (.int .i64 kd) := cell_at hbox 0
        have g1 : W1.cell? ⟨C, 1, none⟩ = some (.int .i64 sdv) := cell_at hbox 1
        have g2 : W1.cell? ⟨C, 2, none⟩ = some (.int .i64 nn) := cell_at hbox 2
        have g3 : W1.cell? ⟨C, 3, none⟩ = some (.slice la ln lc) := cell_at hbox 3
        have hCF : C ∉ F := fun hm => by have := hst.lp.lt _ hm; omega
        have hCG : C ∉ G := fun hm => by have := hst.lm.lt _ hm; omega
        clear c0 c1 c2 c3 hl hln hst hbel hact hbox hlnn
        by_cases hbad : sdv ≠ 0 ∧ sdv ≠ 1
        · have z0 : (sdv != 0) = true := by simpa using hbad.1
          have z1 : (sdv != 1) = true := by simpa using hbad.2
          have HBAD : Hid (some (⟨p, 0, none⟩ : Addr) = none ∨ sdv < 0 ∨ 2 ≤ sdv) := .inr (by omega)
          have HOT := Lib.hid HST.out.lp.oth
          clear hbad
          go_upto_region 11 with fail
          go_wp2_with fail
          refine (hang_bad _ sdv HBAD.out W1 HOT.out).mono ?_
          rintro e w' ⟨rfl, rfl⟩
          go_wp2_with fail
          refine (write_bad _ sdv HBAD.out W1 HOT.out la ln lc).mono ?_
          rintro e w' ⟨rfl, rfl⟩
          go_wp2_with fail
          refine (read_bad _ sdv HBAD.out W1 nn).mono ?_
          rintro e w' ⟨rfl, rfl⟩
          go_wp2_with fail
          refine (over_bad _ sdv HBAD.out W1).mono ?_
          rintro e w' ⟨rfl, rfl⟩
          go_wp2_with fail
          refine (waits_bad _ sdv HBAD.out W1).mono ?_
          rintro e w' ⟨rfl, rfl⟩
          go_wp2_with fail
          refine (room_bad _ sdv HBAD.out W1 HOT.out).mono ?_
          rintro e w' ⟨rfl, rfl⟩
          go_wp2_with fail
          go_roundg (len1 - (i + 1))
          case measure => omega
          case rel => exact ⟨i + 1, by omega, by go_num, _, _, _, HST.out⟩
        obtain ⟨j, hsd⟩ : ∃ j : Bool, sd j = sdv := by
          have : sdv = 0 ∨ sdv = 1 := by omega
          rcases this with h | h
          · exact ⟨false, by rw [h]; rfl⟩
          · exact ⟨true, by rw [h]; rfl⟩
        clear hbad
        go_upto_region 11 with fail
        go_cut [49] (fun v49 w' => v49 = .bool false ∧ W1 = w')
        case first =>
          cases j
          · simp only [sd, Bool.false_eq_true, if_false] at hsd
            subst hsd
            go_wp2_with fail
            go_meet
            exact ⟨rfl, rfl⟩
          · simp only [sd, if_true] at hsd
            subst hsd
            go_wp2_with fail
            go_meet
            exact ⟨rfl, rfl⟩
        case rest =>
        obtain ⟨rfl, rfl⟩ := hcut
        go_upto_region 15 with fail
        go_upto_block 2 with fail
        go_cut [] (fun w' => Any w w' B p m N)
        case first =>
          by_cases k0 : kd = 0
          · subst k0
            obtain ⟨k, hk⟩ : ∃ k, took ln (s.x (!j)).length N (s.e (!j)) = k := ⟨_, rfl⟩
            have HK := Lib.hid hk
            clear hk g0 g2
            go_wp2_with fail
            refine wp_region_noPanic ?_
            refine wp_region_held_drew (S := fun w' => w'.cell? ⟨C, 1, none⟩ = some (.int .i64 sdv) ∧ w'.cell? ⟨C, 3, none⟩ = some (.slice la ln lc)) (by kernel_rfl) (⟨g1, g3⟩) (fun hHeld => ?_)
            refine wpAnyH_take (i := 0) (oi := ⟨some 95, _, _, _, _, _⟩) (v := ?_) rfl (by kernel_rfl) (by kernel_rfl) (by kernel_rfl) (fun _ _ _ h => h) (Or.inl ⟨by rfl, ?_⟩) hHeld ?_
            rotate_left
            · intro w hSw; (try dsimp only at hSw); go_simp; try with_reducible rfl
            try simp only [Act.put, List.setIfInBounds_toArray, List.set_cons_zero, List.set_cons_succ]
            refine wpAnyH_take (i := 1) (oi := ⟨some 96, _, _, _, _, _⟩) (v := ?_) rfl (by kernel_rfl) (by kernel_rfl) (by kernel_rfl) (fun _ _ _ h => h) (Or.inl ⟨by rfl, ?_⟩) hHeld ?_
            rotate_left
            · intro w hSw; (try dsimp only at hSw); go_simp; try with_reducible rfl
            try simp only [Act.put, List.setIfInBounds_toArray, List.set_cons_zero, List.set_cons_succ]
            refine wpAnyH_take (i := 2) (oi := ⟨some 97, _, _, _, _, _⟩) (v := ?_) rfl (by kernel_rfl) (by kernel_rfl) (by kernel_rfl) (fun _ _ _ h => h) (Or.inl ⟨by rfl, ?_⟩) hHeld ?_
            rotate_left
            · intro w hSw; (try dsimp only at hSw); go_simp; try with_reducible rfl
            try simp only [Act.put, List.setIfInBounds_toArray, List.set_cons_zero, List.set_cons_succ]
            refine wpAnyH_take (i := 3) (oi := ⟨some 98, _, _, _, _, _⟩) (v := ?_) rfl (by kernel_rfl) (by kernel_rfl) (by kernel_rfl) (fun _ _ _ h => h) (Or.inl ⟨by rfl, ?_⟩) hHeld ?_
            rotate_left
            · intro w hSw; (try dsimp only at hSw); go_simp; try with_reducible rfl
            try simp only [Act.put, List.setIfInBounds_toArray, List.set_cons_zero, List.set_cons_succ]
            refine wpAnyH_take (i := 4) (oi := ⟨some 99, _, _, _, _, _⟩) (v := ?_) rfl (by kernel_rfl) (by kernel_rfl) (by kernel_rfl) (fun _ _ _ h => h) (Or.inl ⟨by rfl, ?_⟩) hHeld ?_
            rotate_left
            · intro w hSw; (try dsimp only at hSw); go_simp; try with_reducible rfl
            try simp only [Act.put, List.setIfInBounds_toArray, List.set_cons_zero, List.set_cons_succ]
            refine wpAnyH_take (i := 6) (oi := ⟨some 101, _, _, _, _, _⟩) (v := ?_) rfl (by kernel_rfl) (by kernel_rfl) (by kernel_rfl) (fun _ _ _ h => h) (Or.inl ⟨by rfl, ?_⟩) hHeld ?_
            rotate_left
            · intro w hSw; (try dsimp only at hSw); go_simp; try with_reducible rfl
            try simp only [Act.put, List.setIfInBounds_toArray, List.set_cons_zero, List.set_cons_succ]
            refine wpAnyH_take (i := 7) (oi := ⟨some 102, _, _, _, _, _⟩) (v := ?_) rfl (by kernel_rfl) (by kernel_rfl) (by kernel_rfl) (fun _ _ _ h => h) (Or.inl ⟨by rfl, ?_⟩) hHeld ?_
            rotate_left
            · intro w hSw; (try dsimp only at hSw); go_simp; try with_reducible rfl
            try simp only [Act.put, List.setIfInBounds_toArray, List.set_cons_zero, List.set_cons_succ]
            refine wpAnyH_take (i := 8) (oi := ⟨some 103, _, _, _, _, _⟩) (v := ?_) rfl (by kernel_rfl) (by kernel_rfl) (by kernel_rfl) (fun _ _ _ h => h) (Or.inl ⟨by rfl, ?_⟩) hHeld ?_
            rotate_left
            · intro w hSw; (try dsimp only at hSw); go_simp; try with_reducible rfl
            try simp only [Act.put, List.setIfInBounds_toArray, List.set_cons_zero, List.set_cons_succ]
            refine wpAnyH_take (i := 9) (oi := ⟨some 104, _, _, _, _, _⟩) (v := ?_) rfl (by kernel_rfl) (by kernel_rfl) (by kernel_rfl) (fun _ _ _ h => h) (Or.inl ⟨by rfl, ?_⟩) hHeld ?_
            rotate_left
            · intro w hSw; (try dsimp only at hSw); go_simp; try with_reducible rfl
            try simp only [Act.put, List.setIfInBounds_toArray, List.set_cons_zero, List.set_cons_succ]
            refine wpAnyH_take (i := 10) (oi := ⟨some 105, _, _, _, _, _⟩) (v := ?_) rfl (by kernel_rfl) (by kernel_rfl) (by kernel_rfl) (fun _ _ _ h => h) (Or.inl ⟨by rfl, ?_⟩) hHeld ?_
            rotate_left
            · intro w hSw; (try dsimp only at hSw); go_simp; try with_reducible rfl
            try simp only [Act.put, List.setIfInBounds_toArray, List.set_cons_zero, List.set_cons_succ]
            refine wpAnyH_ready (rs := [5]) (by kernel_rfl) (by simp) (AllReadyH.cons (o := ⟨some 100, _, _, _, _, _⟩) rfl (fun K hK => ?_) AllReadyH.nil)
            go_simp
            refine (p_write_at (HST.out.drewN 1).lp (!j) sdv (by rw [Bool.not_not]; exact hsd) la ln lc ll (IsBytes.given HL.out (by rw [hB]; exact (HST.out.drewN 1).fp.1) (by rw [hB]; exact (HST.out.drewN 1).fp.2)) _ _ rfl rfl).mono ?_; rw [HK.out]; rintro e3 w3 ⟨rfl, F3, hp3, hk3, hs3⟩; have hC3 := (hk3.block C (Array.getElem?_eq_some_iff.1 HBOX.out).1 hCF).trans HBOX.out; have HC3 := Lib.hid hC3; have c1 : w3.cell? ⟨C, 1, none⟩ = some (.int .i64 sdv) := cell_at hC3 1; have c3 : w3.cell? ⟨C, 3, none⟩ = some (.slice la ln lc) := cell_at hC3 3; have HM3 := Lib.hid ((HST.out.drewN 1).mid hk3); have hf3 := ((HST.out.drewN 1).fp.keeps (HST.out.drewN 1).sz hk3 hs3).1; rw [← hB] at hf3; have HL3 := Lib.hid (HL.out.below hf3); have HP3 := Lib.hid hp3; have HK3 := Lib.hid hk3; have HS3 : Hid _ := hs3; clear hp3 hk3 hs3 hC3 hf3
            refine hK.out _ _ (⟨c1, c3⟩) (fun hHeld => ?_)
            clear hK K
            try simp only [Act.put, List.setIfInBounds_toArray, List.set_cons_zero, List.set_cons_succ]
            refine wpAnyH_ready (rs := [11]) (by kernel_rfl) (by simp) (AllReadyH.cons (o := ⟨some 106, _, _, _, _, _⟩) rfl (fun K hK => ?_) AllReadyH.nil)
            go_simp
            refine (ref_write HM3.out (!j) sdv (by rw [Bool.not_not]; exact hsd) la ln lc ll HL3.out (by have := HLN.out; omega) _ _ rfl rfl).mono ?_; rw [HK.out]; rintro e4 w4 ⟨rfl, G4, hm4, hk4, hs4⟩; have hC4 := (hk4.block C (Array.getElem?_eq_some_iff.1 HC3.out).1 hCG).trans HC3.out; have c4 : w4.cell? ⟨C, 1, none⟩ = some (.int .i64 sdv) := cell_at hC4 1; have c5 : w4.cell? ⟨C, 3, none⟩ = some (.slice la ln lc) := cell_at hC4 3; have HN := Lib.hid ((HST.out.drewN 1).both HP3.out HK3.out HS3.out hm4 hk4 hs4 (HST.out.bt.set _ _ _ (u8_app (HST.out.bt _) (u8_take HUL.out k)))); clear hm4 hk4 hs4 hC4
            refine hK.out _ _ (⟨c4, c5⟩) (fun hHeld => ?_)
            clear hK K
            try simp only [Act.put, List.setIfInBounds_toArray, List.set_cons_zero, List.set_cons_succ]
            refine wpAnyH_take (i := 12) (oi := ⟨some 107, _, _, _, _, _⟩) (v := ?_) rfl (by kernel_rfl) (by kernel_rfl) (by kernel_rfl) (fun _ _ _ h => h) (Or.inl ⟨by rfl, ?_⟩) hHeld ?_
            rotate_left
            · intro w hSw; (try dsimp only at hSw); go_simp; try with_reducible rfl
            try simp only [Act.put, List.setIfInBounds_toArray, List.set_cons_zero, List.set_cons_succ]
            refine wpAnyH_done (by kernel_rfl) ?_ _
            refine NoPanic.normal ?_
            go_wp2_with fail
            go_meet
            exact ⟨_, _, _, HN.out⟩
          · have z0 : (kd == 0) = false := by simpa using k0
            by_cases k1 : kd = 1
            · subst k1
              obtain ⟨c, hc⟩ : ∃ c, count nn (s.x j).length = c := ⟨_, rfl⟩
              have HCC := Lib.hid hc
              clear hc g0 g3
              go_wp2_with fail
              refine wp_region_noPanic ?_
              refine wp_region_held_drew (S := fun w' => w'.cell? ⟨C, 1, none⟩ = some (.int .i64 sdv) ∧ w'.cell? ⟨C, 2, none⟩ = some (.int .i64 nn)) (by kernel_rfl) (⟨g1, g2⟩) (fun hHeld => ?_)
              refine wpAnyH_take (i := 0) (oi := ⟨some 110, _, _, _, _, _⟩) (v := ?_) rfl (by kernel_rfl) (by kernel_rfl) (by kernel_rfl) (fun _ _ _ h => h) (Or.inl ⟨by rfl, ?_⟩) hHeld ?_
              rotate_left
              · intro w hSw; (try dsimp only at hSw); go_simp; try with_reducible rfl
              try simp only [Act.put, List.setIfInBounds_toArray, List.set_cons_zero, List.set_cons_succ]
              refine wpAnyH_take (i := 1) (oi := ⟨some 111, _, _, _, _, _⟩) (v := ?_) rfl (by kernel_rfl) (by kernel_rfl) (by kernel_rfl) (fun _ _ _ h => h) (Or.inl ⟨by rfl, ?_⟩) hHeld ?_
              rotate_left
              · intro w hSw; (try dsimp only at hSw); go_simp; try with_reducible rfl
              try simp only [Act.put, List.setIfInBounds_toArray, List.set_cons_zero, List.set_cons_succ]
              refine wpAnyH_take (i := 2) (oi := ⟨some 112, _, _, _, _, _⟩) (v := ?_) rfl (by kernel_rfl) (by kernel_rfl) (by kernel_rfl) (fun _ _ _ h => h) (Or.inl ⟨by rfl, ?_⟩) hHeld ?_
              rotate_left
              · intro w hSw; (try dsimp only at hSw); go_simp; try with_reducible rfl
              try simp only [Act.put, List.setIfInBounds_toArray, List.set_cons_zero, List.set_cons_succ]
              refine wpAnyH_take (i := 3) (oi := ⟨some 113, _, _, _, _, _⟩) (v := ?_) rfl (by kernel_rfl) (by kernel_rfl) (by kernel_rfl) (fun _ _ _ h => h) (Or.inl ⟨by rfl, ?_⟩) hHeld ?_
              rotate_left
              · intro w hSw; (try dsimp only at hSw); go_simp; try with_reducible rfl
              try simp only [Act.put, List.setIfInBounds_toArray, List.set_cons_zero, List.set_cons_succ]
              refine wpAnyH_take (i := 4) (oi := ⟨some 114, _, _, _, _, _⟩) (v := ?_) rfl (by kernel_rfl) (by kernel_rfl) (by kernel_rfl) (fun _ _ _ h => h) (Or.inl ⟨by rfl, ?_⟩) hHeld ?_
              rotate_left
              · intro w hSw; (try dsimp only at hSw); go_simp; try with_reducible rfl
              try simp only [Act.put, List.setIfInBounds_toArray, List.set_cons_zero, List.set_cons_succ]
              refine wpAnyH_take (i := 7) (oi := ⟨some 117, _, _, _, _, _⟩) (v := ?_) rfl (by kernel_rfl) (by kernel_rfl) (by kernel_rfl) (fun _ _ _ h => h) (Or.inl ⟨by rfl, ?_⟩) hHeld ?_
              rotate_left
              · intro w hSw; (try dsimp only at hSw); go_simp; try with_reducible rfl
              try simp only [Act.put, List.setIfInBounds_toArray, List.set_cons_zero, List.set_cons_succ]
              refine wpAnyH_take (i := 8) (oi := ⟨some 118, _, _, _, _, _⟩) (v := ?_) rfl (by kernel_rfl) (by kernel_rfl) (by kernel_rfl) (fun _ _ _ h => h) (Or.inl ⟨by rfl, ?_⟩) hHeld ?_
              rotate_left
              · intro w hSw; (try dsimp only at hSw); go_simp; try with_reducible rfl
              try simp only [Act.put, List.setIfInBounds_toArray, List.set_cons_zero, List.set_cons_succ]
              refine wpAnyH_take (i := 9) (oi := ⟨some 119, _, _, _, _, _⟩) (v := ?_) rfl (by kernel_rfl) (by kernel_rfl) (by kernel_rfl) (fun _ _ _ h => h) (Or.inl ⟨by rfl, ?_⟩) hHeld ?_
              rotate_left
              · intro w hSw; (try dsimp only at hSw); go_simp; try with_reducible rfl
              try simp only [Act.put, List.setIfInBounds_toArray, List.set_cons_zero, List.set_cons_succ]
              refine wpAnyH_take (i := 10) (oi := ⟨some 120, _, _, _, _, _⟩) (v := ?_) rfl (by kernel_rfl) (by kernel_rfl) (by kernel_rfl) (fun _ _ _ h => h) (Or.inl ⟨by rfl, ?_⟩) hHeld ?_
              rotate_left
              · intro w hSw; (try dsimp only at hSw); go_simp; try with_reducible rfl
              try simp only [Act.put, List.setIfInBounds_toArray, List.set_cons_zero, List.set_cons_succ]
              refine wpAnyH_take (i := 11) (oi := ⟨some 121, _, _, _, _, _⟩) (v := ?_) rfl (by kernel_rfl) (by kernel_rfl) (by kernel_rfl) (fun _ _ _ h => h) (Or.inl ⟨by rfl, ?_⟩) hHeld ?_
              rotate_left
              · intro w hSw; (try dsimp only at hSw); go_simp; try with_reducible rfl
              try simp only [Act.put, List.setIfInBounds_toArray, List.set_cons_zero, List.set_cons_succ]
              refine wpAnyH_ready (rs := [5]) (by kernel_rfl) (by simp) (AllReadyH.cons (o := ⟨some 115, _, _, _, _, _⟩) rfl (fun K hK => ?_) AllReadyH.nil)
              go_simp
              refine (p_read_at (HST.out.drewN 1).lp j sdv hsd nn _ _ rfl rfl).mono ?_; rw [HCC.out]; rintro e3 w3 ⟨sp3, sc3, rfl, hown3, hp3, hk3⟩; have hC3 := (hk3.block C (Array.getElem?_eq_some_iff.1 HBOX.out).1 hCF).trans HBOX.out; have HC3 := Lib.hid hC3; have c1 : w3.cell? ⟨C, 1, none⟩ = some (.int .i64 sdv) := cell_at hC3 1; have c2 : w3.cell? ⟨C, 2, none⟩ = some (.int .i64 nn) := cell_at hC3 2; have HM3 := Lib.hid ((HST.out.drewN 1).mid hk3); have v3 := conv_own hown3; have u3 : ∀ w' : World, Keeps G w3 w' → (convert 22 9 (.slice sp3 c sc3)).run Tryd.prog w' = .ok (.string (strOfNums ((s.x j).take c))) w' := (fun w' hk => conv_own (own_keeps hown3 hk (fun k e hm => by have := (hown3.lt k e).1; have h2 := (HST.out.drewN 1).lm.lt k hm; omega))); have U3 : Hid _ := u3; have HP3 := Lib.hid hp3; have HK3 := Lib.hid hk3; clear hown3 hp3 hk3 u3 hC3
              refine hK.out _ _ (⟨c1, c2⟩) (fun hHeld => ?_)
              clear hK K
              try simp only [Act.put, List.setIfInBounds_toArray, List.set_cons_zero, List.set_cons_succ]
              refine wpAnyH_ready (rs := [6, 12]) (by kernel_rfl) (by simp) (AllReadyH.cons (o := ⟨some 116, _, _, _, _, _⟩) rfl (fun K hK => ?_) (AllReadyH.cons (o := ⟨some 122, _, _, _, _, _⟩) rfl (fun K hK => ?_) AllReadyH.nil))
              · go_simp
                refine hK.out _ _ (⟨c1, c2⟩) (fun hHeld => ?_)
                clear hK K
                try simp only [Act.put, List.setIfInBounds_toArray, List.set_cons_zero, List.set_cons_succ]
                refine wpAnyH_ready (rs := [12]) (by kernel_rfl) (by simp) (AllReadyH.cons (o := ⟨some 122, _, _, _, _, _⟩) rfl (fun K hK => ?_) AllReadyH.nil)
                go_simp
                refine (ref_read HM3.out j sdv hsd nn _ _ rfl rfl (HST.out.bt j)).mono ?_; rw [HCC.out]; rintro e4 w4 ⟨sp4, sc4, rfl, hown4, G4, hm4, hk4, hs4⟩; have hC4 := (hk4.block C (Array.getElem?_eq_some_iff.1 HC3.out).1 hCG).trans HC3.out; have c4 : w4.cell? ⟨C, 1, none⟩ = some (.int .i64 sdv) := cell_at hC4 1; have c5 : w4.cell? ⟨C, 2, none⟩ = some (.int .i64 nn) := cell_at hC4 2; have v4 := conv_own hown4; have v5 := U3.out w4 hk4; have HN := Lib.hid ((HST.out.drewN 1).both HP3.out HK3.out (fun _ h => .inl h) hm4 hk4 hs4 (HST.out.bt.set _ _ _ (u8_drop (HST.out.bt j) c))); clear hown4 hm4 hk4 hs4 hC4
                refine hK.out _ _ (⟨c4, c5⟩) (fun hHeld => ?_)
                clear hK K
                try simp only [Act.put, List.setIfInBounds_toArray, List.set_cons_zero, List.set_cons_succ]
                refine wpAnyH_ready (rs := [13]) (by kernel_rfl) (by simp) (AllReadyH.cons (o := ⟨some 123, _, _, _, _, _⟩) rfl (fun K hK => ?_) AllReadyH.nil)
                go_simp
                refine hK.out _ _ (⟨c4, c5⟩) (fun hHeld => ?_)
                clear hK K
                try simp only [Act.put, List.setIfInBounds_toArray, List.set_cons_zero, List.set_cons_succ]
                refine wpAnyH_take (i := 14) (oi := ⟨some 124, _, _, _, _, _⟩) (v := ?_) rfl (by kernel_rfl) (by kernel_rfl) (by kernel_rfl) (fun _ _ _ h => h) (Or.inl ⟨by rfl, ?_⟩) hHeld ?_
                rotate_left
                · intro w hSw; (try dsimp only at hSw); go_simp; try with_reducible rfl
                try simp only [Act.put, List.setIfInBounds_toArray, List.set_cons_zero, List.set_cons_succ]
                refine wpAnyH_done (by kernel_rfl) ?_ _
                refine NoPanic.normal ?_
                go_wp2_with fail
                go_meet
                exact ⟨_, _, _, HN.out⟩
              · go_simp
                refine (ref_read HM3.out j sdv hsd nn _ _ rfl rfl (HST.out.bt j)).mono ?_; rw [HCC.out]; rintro e4 w4 ⟨sp4, sc4, rfl, hown4, G4, hm4, hk4, hs4⟩; have hC4 := (hk4.block C (Array.getElem?_eq_some_iff.1 HC3.out).1 hCG).trans HC3.out; have c4 : w4.cell? ⟨C, 1, none⟩ = some (.int .i64 sdv) := cell_at hC4 1; have c5 : w4.cell? ⟨C, 2, none⟩ = some (.int .i64 nn) := cell_at hC4 2; have v4 := conv_own hown4; have v5 := U3.out w4 hk4; have HN := Lib.hid ((HST.out.drewN 1).both HP3.out HK3.out (fun _ h => .inl h) hm4 hk4 hs4 (HST.out.bt.set _ _ _ (u8_drop (HST.out.bt j) c))); clear hown4 hm4 hk4 hs4 hC4
                refine hK.out _ _ (⟨c4, c5⟩) (fun hHeld => ?_)
                clear hK K
                try simp only [Act.put, List.setIfInBounds_toArray, List.set_cons_zero, List.set_cons_succ]
                refine wpAnyH_ready (rs := [6, 13]) (by kernel_rfl) (by simp) (AllReadyH.cons (o := ⟨some 116, _, _, _, _, _⟩) rfl (fun K hK => ?_) (AllReadyH.cons (o := ⟨some 123, _, _, _, _, _⟩) rfl (fun K hK => ?_) AllReadyH.nil))
                · go_simp
                  refine hK.out _ _ (⟨c4, c5⟩) (fun hHeld => ?_)
                  clear hK K
                  try simp only [Act.put, List.setIfInBounds_toArray, List.set_cons_zero, List.set_cons_succ]
                  refine wpAnyH_ready (rs := [13]) (by kernel_rfl) (by simp) (AllReadyH.cons (o := ⟨some 123, _, _, _, _, _⟩) rfl (fun K hK => ?_) AllReadyH.nil)
                  go_simp
                  refine hK.out _ _ (⟨c4, c5⟩) (fun hHeld => ?_)
                  clear hK K
                  try simp only [Act.put, List.setIfInBounds_toArray, List.set_cons_zero, List.set_cons_succ]
                  refine wpAnyH_take (i := 14) (oi := ⟨some 124, _, _, _, _, _⟩) (v := ?_) rfl (by kernel_rfl) (by kernel_rfl) (by kernel_rfl) (fun _ _ _ h => h) (Or.inl ⟨by rfl, ?_⟩) hHeld ?_
                  rotate_left
                  · intro w hSw; (try dsimp only at hSw); go_simp; try with_reducible rfl
                  try simp only [Act.put, List.setIfInBounds_toArray, List.set_cons_zero, List.set_cons_succ]
                  refine wpAnyH_done (by kernel_rfl) ?_ _
                  refine NoPanic.normal ?_
                  go_wp2_with fail
                  go_meet
                  exact ⟨_, _, _, HN.out⟩
                · go_simp
                  refine hK.out _ _ (⟨c4, c5⟩) (fun hHeld => ?_)
                  clear hK K
                  try simp only [Act.put, List.setIfInBounds_toArray, List.set_cons_zero, List.set_cons_succ]
                  refine wpAnyH_ready (rs := [6]) (by kernel_rfl) (by simp) (AllReadyH.cons (o := ⟨some 116, _, _, _, _, _⟩) rfl (fun K hK => ?_) AllReadyH.nil)
                  go_simp
                  refine hK.out _ _ (⟨c4, c5⟩) (fun hHeld => ?_)
                  clear hK K
                  try simp only [Act.put, List.setIfInBounds_toArray, List.set_cons_zero, List.set_cons_succ]
                  refine wpAnyH_take (i := 14) (oi := ⟨some 124, _, _, _, _, _⟩) (v := ?_) rfl (by kernel_rfl) (by kernel_rfl) (by kernel_rfl) (fun _ _ _ h => h) (Or.inl ⟨by rfl, ?_⟩) hHeld ?_
                  rotate_left
                  · intro w hSw; (try dsimp only at hSw); go_simp; try with_reducible rfl
                  try simp only [Act.put, List.setIfInBounds_toArray, List.set_cons_zero, List.set_cons_succ]
                  refine wpAnyH_done (by kernel_rfl) ?_ _
                  refine NoPanic.normal ?_
                  go_wp2_with fail
                  go_meet
                  exact ⟨_, _, _, HN.out⟩
            · have z1 : (kd == 1) = false := by simpa using k1
              by_cases k2 : kd = 2
              · subst k2
                go_wp2_with fail
                refine (p_hang HST.out.lp (!j) sdv (by rw [Bool.not_not]; exact hsd)).mono ?_
                rintro e3 w3 ⟨rfl, hp3, hk3⟩
                have hC3 := (hk3.block C (Array.getElem?_eq_some_iff.1 HBOX.out).1 hCF).trans HBOX.out
                have c1 : w3.cell? ⟨C, 1, none⟩ = some (.int .i64 sdv) := cell_at hC3 1
                obtain ⟨q, cq, f2, cq2, G4, hm4, hk4, hs4⟩ := ref_end (HST.out.mid hk3) (!j)
                have HN := Lib.hid (HST.out.both hp3 hk3 (fun _ h => .inl h) hm4 hk4 hs4 (HST.out.bt.set _ _ _ (HST.out.bt _)))
                clear hp3 hk3 hC3 hm4 hk4 hs4 HST HBOX g0 g1 g2 g3
                cases j
                all_goals
                  simp only [sd, Bool.not_false, Bool.not_true, if_true, Bool.false_eq_true, if_false] at hsd cq
                  subst hsd
                  go_wp2_with fail
                  go_region
                  all_goals (go_wp2_with fail; go_meet)
                  all_goals exact ⟨_, _, _, HN.out.drewN 1⟩
              · have z2 : (kd == 2) = false := by simpa using k2
                go_wp2_with fail
                go_meet
                exact ⟨_, _, _, HST.out⟩
        case rest =>
        clear HST HL HLN HBOX HUL g0 g1 g2 g3 d0 d1 d2 d3 hCF hCG hsd
        obtain ⟨s, F, G, hst⟩ := hcut
        have HST := Lib.hid hst
        clear hst
        go_wp2_with fail
        go_loopg [141] 2 (fun g v141 wx => ((g = 2 ∧ v141 = .int .i64 0) ∨ (g = 1 ∧ v141 = .int .i64 1) ∨ (g = 0 ∧ v141 = .int .i64 2)) ∧ Hid (St w wx B p m N s F G))
        case atStart => exact ⟨.inl ⟨rfl, rfl⟩, HST⟩
        case round =>
          clear HST
          obtain ⟨hg, HST⟩ := hrel
          rcases hg with ⟨rfl, rfl⟩ | ⟨rfl, rfl⟩ | ⟨rfl, rfl⟩
          · have hs : St w wr B p m N s F G := HST.out
            obtain ⟨q0, Gq0, c0, hq0, _, _⟩ := hs.lm.way false
            obtain ⟨q1, Gq1, c1, hq1, _, _⟩ := hs.lm.way true
            simp only [if_true, Bool.false_eq_true, if_false] at c0 c1
            obtain ⟨sp, sc, d0, _, _⟩ := hq0.cells
            obtain ⟨k, hk⟩ : ∃ k, (s.x false).length = k := ⟨_, rfl⟩
            obtain ⟨o, hov⟩ : ∃ o, (s.e false && decide ((s.x false).length = 0)) = o := ⟨_, rfl⟩
            obtain ⟨r, hr⟩ : ∃ r, roomOf (s.x true).length N (s.e true) = r := ⟨_, rfl⟩
            rw [hk] at d0
            have HKK := Lib.hid hk
            have HOV := Lib.hid hov
            have HRR := Lib.hid hr
            have HPL := Lib.hid hs.lp
            have HML := Lib.hid hs.lm
            have HRQ := Lib.hid hq1
            clear hs hk hov hr hq0 hq1
            go_wp2_with fail
            go_quiet (first | (go_at_call 19; exact p_over_q HPL.out false 0 rfl o HOV.out _) | (go_at_call 26; exact ref_over_q HML.out false 0 rfl o HOV.out _) | (go_at_call 21; exact p_waits_q HPL.out false 0 rfl k HKK.out _) | (go_at_call 22; exact p_room_q HPL.out true 0 rfl r HRR.out _) | (go_at_call 27; exact ref_room_q HRQ.out r HRR.out _))
            go_wp2_with fail
            go_roundg 1
            case measure => omega
            case rel => exact ⟨.inr (.inl ⟨rfl, rfl⟩), HST.out.drewN nq⟩
          · have hs : St w wr B p m N s F G := HST.out
            obtain ⟨q0, Gq0, c0, hq0, _, _⟩ := hs.lm.way false
            obtain ⟨q1, Gq1, c1, hq1, _, _⟩ := hs.lm.way true
            simp only [if_true, Bool.false_eq_true, if_false] at c0 c1
            obtain ⟨sp, sc, d0, _, _⟩ := hq1.cells
            obtain ⟨k, hk⟩ : ∃ k, (s.x true).length = k := ⟨_, rfl⟩
            obtain ⟨o, hov⟩ : ∃ o, (s.e true && decide ((s.x true).length = 0)) = o := ⟨_, rfl⟩
            obtain ⟨r, hr⟩ : ∃ r, roomOf (s.x false).length N (s.e false) = r := ⟨_, rfl⟩
            rw [hk] at d0
            have HKK := Lib.hid hk
            have HOV := Lib.hid hov
            have HRR := Lib.hid hr
            have HPL := Lib.hid hs.lp
            have HML := Lib.hid hs.lm
            have HRQ := Lib.hid hq0
            clear hs hk hov hr hq0 hq1
            go_wp2_with fail
            go_quiet (first | (go_at_call 19; exact p_over_q HPL.out true 1 rfl o HOV.out _) | (go_at_call 26; exact ref_over_q HML.out true 1 rfl o HOV.out _) | (go_at_call 21; exact p_waits_q HPL.out true 1 rfl k HKK.out _) | (go_at_call 22; exact p_room_q HPL.out false 1 rfl r HRR.out _) | (go_at_call 27; exact ref_room_q HRQ.out r HRR.out _))
            go_wp2_with fail
            go_roundg 0
            case measure => omega
            case rel => exact ⟨.inr (.inr ⟨rfl, rfl⟩), HST.out.drewN nq⟩
          · go_wp2_with fail
            go_roundg (len1 - (i + 1))
            case measure => omega
            case rel => exact ⟨i + 1, by omega, by go_num, _, _, _, HST.out⟩
      · have hin : i = len1 := by omega
        subst hin
        go_wp2_with fail
        go_ret
        rw [hB]
        exact ⟨rfl, hst.fp.1⟩
end Go.Proofs.YthpdphbppapkhaaDoor.ptyActs
