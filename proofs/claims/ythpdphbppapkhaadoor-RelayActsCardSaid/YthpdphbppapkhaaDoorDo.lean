/-
  The walk of what happens in the statements' world (Do). Condition: what is written takes at most 100 bytes; what was written and read so far takes at most 100000.
-/
import Derived.Test.YthpdphbppapkhaaDoorLW
import Derived.RegionTactic
namespace Go.Proofs.YthpdphbppapkhaaDoor
open Go.RowKit qb
set_option linter.unusedVariables false

attribute [local go_sem] Oper.semAt_some

def wroteS (S : LS) (u : Bool) (k : Nat) (zs : List Int) : LS :=
  { S with s := { S.s with l := upd S.s.l u ((S.s.l u).set u ((S.s.l u).x u ++ zs.take k) ((S.s.l u).e u)) }, wr := upd S.wr u (S.wr u ++ zs.take k) }
def readdS (S : LS) (u : Bool) (k : Nat) : LS :=
  { S with s := { S.s with l := upd S.s.l u ((S.s.l u).set (!u) (((S.s.l u).x (!u)).drop k) ((S.s.l u).e (!u))) }, rd := upd S.rd (!u) (S.rd (!u) ++ ((S.s.l u).x (!u)).take k) }
def hangS (S : LS) (u : Bool) : LS := { S with s := { S.s with l := upd S.s.l u ((S.s.l u).set u ((S.s.l u).x u) true) } }

/-- What happens. -/
def doS (N : Nat) (S : LS) (a : Act) : LS × Bool :=
  if a.kind = 4 then (wroteS S true (took a.l.length ((S.s.l true).x true).length N ((S.s.l true).e true)) a.l, false)
  else if a.kind = 5 then (readdS S true (count a.p1 ((S.s.l true).x false).length), false)
  else if a.kind = 6 then (hangS S true, false)
  else if a.kind = 7 then (wroteS S false (took a.l.length ((S.s.l false).x false).length N ((S.s.l false).e false)) a.l, false)
  else if a.kind = 8 then (readdS S false (count a.p1 ((S.s.l false).x true).length), false)
  else if a.kind = 9 then (hangS S false, false)
  else ({ S with s := (stepS N S.s a.kind a.p1 a.p2).1 }, (stepS N S.s a.kind a.p1 a.p2).2)

def Did (w : World) (Wd R : Nat) (ln : Bool → Nat) (N : Nat) (H : List Nat) (S' : LS) (r : Bool) (e : Ending) (w' : World) : Prop :=
  e = .returned (.bool r) ∧ ∃ H', LW w' Wd R ln N S' H' ∧ Keeps H w w' ∧ ∀ k, k ∈ H' → k ∈ H ∨ w.heap.size ≤ k

/-- The box that an act is laid in. -/
theorem did_box {w W1 : World} {Wd R : Nat} {ln : Bool → Nat} {N : Nat} {H : List Nat} {S' : LS} {r : Bool} {e : Ending} {w' : World} (hb : Below w.heap.size w W1) (h : Did W1 Wd R ln N H S' r e w') : Did w Wd R ln N H S' r e w' := by
  obtain ⟨h1, H', h2, h3, h4⟩ := h
  refine ⟨h1, H', h2, (Keeps.of_below hb H).trans h3 (fun _ h => .inl h), fun k hk => ?_⟩
  rcases h4 k hk with h | h
  · exact .inl h
  · exact .inr (Nat.le_trans hb.size h)

section
variable {w : World} {Wd R : Nat} {ln : Bool → Nat} {N : Nat} {S : LS} {H : List Nat}


set_option maxRecDepth 100000 in
set_option maxHeartbeats 4000000 in
theorem do_write_user (h : LW w Wd R ln N S H) (a : Option Addr) (n c : Nat) (l : List Int) (Qa : List Nat) (hy : Slc w Qa (.slice a n c) l) (hqa : ∀ k, k ∈ Qa → k ∉ H) (hn : n ≤ 100) (p1 p2 : Int) (hwr : ∀ d, (S.wr d).length ≤ 100000) (hrd : ∀ d, (S.rd d).length ≤ 100000) :
    Calls Tryd.prog 31 #[.pointer (some ⟨Wd, 0, none⟩), .agg #[.int .i64 4, .int .i64 p1, .int .i64 p2, .slice a n c]] w (Did w Wd R ln N H (wroteS S true (took l.length ((S.s.l true).x true).length N ((S.s.l true).e true)) l) false) := by
  obtain ⟨C, hC⟩ : ∃ C, w.heap.size = C := ⟨_, rfl⟩
  obtain ⟨W1, hW1⟩ : ∃ W1, w.alloc (.cells #[.int .i64 4, .int .i64 p1, .int .i64 p2, .slice a n c] 59) = W1 := ⟨_, rfl⟩
  have hb1 : Below w.heap.size w W1 := by rw [← hW1]; exact (Below.refl _ _).alloc (Nat.le_refl _) _
  have hbox : W1.heap[C]? = some (.cells #[.int .i64 4, .int .i64 p1, .int .i64 p2, .slice a n c] 59 (0, 0)) := by rw [← hW1, ← hC]; exact heap_alloc_new w _
  have h1 := h.below hb1
  have hCH : C ∉ H := fun hm => by have := h.lt C hm; omega
  have hy1 := hy.below hb1
  have hFB : Hid (∀ {S' : LS} {r : Bool} {e : Ending} {w' : World}, Did W1 Wd R ln N H S' r e w' → Did w Wd R ln N H S' r e w') := fun h => did_box hb1 h
  have g0 : W1.cell? ⟨C, 0, none⟩ = some (.int .i64 4) := cell_at hbox 0
  have g1 : W1.cell? ⟨C, 1, none⟩ = some (.int .i64 p1) := cell_at hbox 1
  have g2 : W1.cell? ⟨C, 2, none⟩ = some (.int .i64 p2) := cell_at hbox 2
  have g3 : W1.cell? ⟨C, 3, none⟩ = some (.slice a n c) := cell_at hbox 3
  have HBOX := Lib.hid hbox
  have HY := Lib.hid hy1
  have H1 := Lib.hid h1
  have HWR : Hid _ := hwr
  have HRD : Hid _ := hrd
  have HQA : Hid _ := hqa
  have hyl : l.length = n := by obtain ⟨a', n', c', e, _, _, h3, _⟩ := hy; cases e; exact h3
  have hnc : n ≤ c := by obtain ⟨a', n', c', e, h3, _⟩ := hy; cases e; exact h3
  have HYL := Lib.hid hyl
  obtain ⟨F, hp, hFH, hWF, hfin⟩ := h1.line true
  have HF : Hid _ := hfin
  have hCF : C ∉ F := fun hm => hCH (hFH C hm)
  obtain ⟨P, hP⟩ : ∃ P, ln true = P := ⟨_, rfl⟩
  rw [hP] at hp
  have HPT : Hid (∀ {w3 : World} {F' : List Nat} {l' : Line}, IsP w3 P F' N l' → IsP w3 (ln true) F' N l') := fun h => by rw [hP]; exact h
  have w0 : W1.cell? ⟨Wd, 0, none⟩ = some (.pointer (some ⟨P, 0, none⟩)) := by rw [← hP]; exact h1.cells 0
  have HP := Lib.hid hp

  have hGV : Hid (qb.GivenIn (W1.drewN 1) F a n c l) := (hy1.below (below_drewN (Below.refl _ _) 1)).given (fun k h1 h2 => hqa k h1 (hFH k h2))
  have HQF : Hid (∀ k, k ∈ Qa → k ∉ F) := fun k h1 h2 => hqa k h1 (hFH k h2)
  rw [hyl]
  obtain ⟨k, hk⟩ : ∃ k, took n ((S.s.l true).x true).length N ((S.s.l true).e true) = k := ⟨_, rfl⟩
  have hkn : k ≤ n := by rw [← hk]; exact took_le _ _ _ _
  have hkc : k ≤ c := by omega
  have HK := Lib.hid hk
  have x0 : W1.cell? ⟨Wd, 3, none⟩ = some (.string (strOfNums (S.wr true))) := h1.cells 3
  rw [hk]
  clear h h1 hy hy1 hqa hp hfin hP hbox hk hyl hb1 hwr hrd
  go_enter Tryd.func31, Tryd.ntmps31
  go_upto_region 4 with fail

  refine wp_region_noPanic ?_
  refine wp_region_held_drew (S := fun w' => w'.cell? ⟨Wd, 0, none⟩ = some (.pointer (some ⟨P, 0, none⟩)) ∧ w'.cell? ⟨C, 3, none⟩ = some (.slice a n c)) (by kernel_rfl) (⟨w0, g3⟩) (fun hHeld => ?_)
  refine wpAnyH_take (i := 0) (oi := ⟨some 22, _, _, _, _, _⟩) (v := ?_) rfl (by kernel_rfl) (by kernel_rfl) (by kernel_rfl) (fun _ _ _ h => h) (Or.inl ⟨by rfl, ?_⟩) hHeld ?_
  rotate_left
  · intro w hSw; (try dsimp only at hSw); go_simp; try with_reducible rfl
  try simp only [Act.put, List.setIfInBounds_toArray, List.set_cons_zero, List.set_cons_succ]
  refine wpAnyH_take (i := 1) (oi := ⟨some 23, _, _, _, _, _⟩) (v := ?_) rfl (by kernel_rfl) (by kernel_rfl) (by kernel_rfl) (fun _ _ _ h => h) (Or.inl ⟨by rfl, ?_⟩) hHeld ?_
  rotate_left
  · intro w hSw; (try dsimp only at hSw); go_simp; try with_reducible rfl
  try simp only [Act.put, List.setIfInBounds_toArray, List.set_cons_zero, List.set_cons_succ]
  refine wpAnyH_take (i := 2) (oi := ⟨some 24, _, _, _, _, _⟩) (v := ?_) rfl (by kernel_rfl) (by kernel_rfl) (by kernel_rfl) (fun _ _ _ h => h) (Or.inl ⟨by rfl, ?_⟩) hHeld ?_
  rotate_left
  · intro w hSw; (try dsimp only at hSw); go_simp; try with_reducible rfl
  try simp only [Act.put, List.setIfInBounds_toArray, List.set_cons_zero, List.set_cons_succ]
  refine wpAnyH_take (i := 3) (oi := ⟨some 25, _, _, _, _, _⟩) (v := ?_) rfl (by kernel_rfl) (by kernel_rfl) (by kernel_rfl) (fun _ _ _ h => h) (Or.inl ⟨by rfl, ?_⟩) hHeld ?_
  rotate_left
  · intro w hSw; (try dsimp only at hSw); go_simp; try with_reducible rfl
  try simp only [Act.put, List.setIfInBounds_toArray, List.set_cons_zero, List.set_cons_succ]
  refine wpAnyH_take (i := 4) (oi := ⟨some 26, _, _, _, _, _⟩) (v := ?_) rfl (by kernel_rfl) (by kernel_rfl) (by kernel_rfl) (fun _ _ _ h => h) (Or.inl ⟨by rfl, ?_⟩) hHeld ?_
  rotate_left
  · intro w hSw; (try dsimp only at hSw); go_simp; try with_reducible rfl
  try simp only [Act.put, List.setIfInBounds_toArray, List.set_cons_zero, List.set_cons_succ]
  refine wpAnyH_take (i := 5) (oi := ⟨some 27, _, _, _, _, _⟩) (v := ?_) rfl (by kernel_rfl) (by kernel_rfl) (by kernel_rfl) (fun _ _ _ h => h) (Or.inl ⟨by rfl, ?_⟩) hHeld ?_
  rotate_left
  · intro w hSw; (try dsimp only at hSw); go_simp; try with_reducible rfl
  try simp only [Act.put, List.setIfInBounds_toArray, List.set_cons_zero, List.set_cons_succ]
  refine wpAnyH_take (i := 7) (oi := ⟨some 29, _, _, _, _, _⟩) (v := ?_) rfl (by kernel_rfl) (by kernel_rfl) (by kernel_rfl) (fun _ _ _ h => h) (Or.inl ⟨by rfl, ?_⟩) hHeld ?_
  rotate_left
  · intro w hSw; (try dsimp only at hSw); go_simp; try with_reducible rfl
  try simp only [Act.put, List.setIfInBounds_toArray, List.set_cons_zero, List.set_cons_succ]
  refine wpAnyH_take (i := 8) (oi := ⟨some 30, _, _, _, _, _⟩) (v := ?_) rfl (by kernel_rfl) (by kernel_rfl) (by kernel_rfl) (fun _ _ _ h => h) (Or.inl ⟨by rfl, ?_⟩) hHeld ?_
  rotate_left
  · intro w hSw; (try dsimp only at hSw); go_simp; try with_reducible rfl
  try simp only [Act.put, List.setIfInBounds_toArray, List.set_cons_zero, List.set_cons_succ]
  refine wpAnyH_take (i := 9) (oi := ⟨some 31, _, _, _, _, _⟩) (v := ?_) rfl (by kernel_rfl) (by kernel_rfl) (by kernel_rfl) (fun _ _ _ h => h) (Or.inl ⟨by rfl, ?_⟩) hHeld ?_
  rotate_left
  · intro w hSw; (try dsimp only at hSw); go_simp; try with_reducible rfl
  try simp only [Act.put, List.setIfInBounds_toArray, List.set_cons_zero, List.set_cons_succ]
  refine wpAnyH_ready (rs := [6]) (by kernel_rfl) (by simp) (AllReadyH.cons (o := ⟨some 28, _, _, _, _, _⟩) rfl (fun K hK => ?_) AllReadyH.nil)
  go_simp
  refine (p_write_at (w := W1.drewN 1) (F := F) (n := N) (s := S.s.l true) (HP.out.drewN 1) true 0 rfl a n c l hGV.out ((S.s.l true).x true) ((S.s.l true).e true) rfl rfl).mono ?_; rw [HK.out]; rintro e3 w3 ⟨rfl, F3, hp3, hk3, hs3⟩; obtain ⟨H3, hW3, hkk3, hss3⟩ := HF.out w3 F3 _ (HPT.out hp3) ⟨hk3.os, hk3.tape, hk3.output, hk3.size, hk3.block⟩ hs3; have hC3 := (hk3.block C (Array.getElem?_eq_some_iff.1 HBOX.out).1 hCF).trans HBOX.out; have c3 : w3.cell? ⟨C, 3, none⟩ = some (.slice a n c) := cell_at hC3 3; have c0 : w3.cell? ⟨Wd, 0, none⟩ = some (.pointer (some ⟨P, 0, none⟩)) := (by rw [hW3.cells 0]; exact (H1.out.cells 0).symm.trans w0); have x3 : w3.cell? ⟨Wd, 3, none⟩ = some (.string (strOfNums (S.wr true))) := hW3.cells 3; have xf : w3.frozen? ⟨Wd, 3, none⟩ = false := hW3.frozen 3; have HW3 := Lib.hid hW3; have HKK := Lib.hid hkk3; have HSS : Hid _ := hss3; have HY3 := Lib.hid (HY.out.keeps (X := F) ⟨hk3.os, hk3.tape, hk3.output, hk3.size, hk3.block⟩ HQF.out); clear hp3 hk3 hs3 hC3 hW3 hkk3 hss3
  refine hK.out _ _ (⟨c0, c3⟩) (fun hHeld => ?_)
  clear hK K
  try simp only [Act.put, List.setIfInBounds_toArray, List.set_cons_zero, List.set_cons_succ]
  refine wpAnyH_take (i := 10) (oi := ⟨some 32, _, _, _, _, _⟩) (v := .int .i64 k) rfl (by kernel_rfl) (by kernel_rfl) (by kernel_rfl) (fun _ _ _ h => h) (Or.inl ⟨by rfl, ?_⟩) hHeld ?_
  · intro w hSw; go_simp; try (intros; omega)
  try simp only [Act.put, List.setIfInBounds_toArray, List.set_cons_zero, List.set_cons_succ]
  refine wpAnyH_take (i := 11) (oi := ⟨some 33, _, _, _, _, _⟩) (v := .int .i64 k) rfl (by kernel_rfl) (by kernel_rfl) (by kernel_rfl) (fun _ _ _ h => h) (Or.inl ⟨by rfl, ?_⟩) hHeld ?_
  · intro w hSw; go_simp; try (intros; omega)
  try simp only [Act.put, List.setIfInBounds_toArray, List.set_cons_zero, List.set_cons_succ]
  refine wpAnyH_take (i := 12) (oi := ⟨some 5, _, _, _, _, _⟩) (v := ?_) rfl (by kernel_rfl) (by kernel_rfl) (by kernel_rfl) (fun _ _ _ h => h) (Or.inl ⟨by rfl, ?_⟩) hHeld ?_
  rotate_left
  · intro w hSw; (try dsimp only at hSw); go_simp; try with_reducible rfl
  try simp only [Act.put, List.setIfInBounds_toArray, List.set_cons_zero, List.set_cons_succ]
  refine wpAnyH_done (by kernel_rfl) ?_ _
  refine NoPanic.normal ?_

  have hcv : (convert 22 9 (.slice a k c)).run Tryd.prog w3.drew = .ok (.string (strOfNums (l.take k))) w3.drew := ((HY3.out.cut hkn).below (w' := w3.drew) (below_drewN (Below.refl _ _) 1)).conv
  have sz1 : (strOfNums (S.wr true)).size ≤ 100000 := by rw [strOfNums_size]; exact HWR.out true
  have sz2 : (strOfNums (l.take k)).size ≤ 100 := by rw [strOfNums_size]; simp; omega
  have FIN : Hid (Did W1 Wd R ln N H (wroteS S true k l) false (.returned (.bool false)) ((w3.drewN 1).setCell ⟨Wd, 3, none⟩ (.string (strOfNums (S.wr true) ++ strOfNums (l.take k))))) := by
    have h4 := (HW3.out.below (below_drewN (Below.refl _ _) 1)).wrote true (l.take k)
    refine ⟨rfl, H3, h4, (HKK.out.trans (Keeps.of_below (below_drewN (Below.refl _ _) 1) H) (fun _ h => .inl h)).trans (setW_keeps (HW3.out.below (below_drewN (Below.refl _ _) 1))) HSS.out, HSS.out⟩
  clear HW3 HKK HSS HY3 HBOX H1 HY g0 g1 g2 g3 w0 x0 c0 hHeld HK hGV
  go_wp2_with fail
  go_region
  all_goals (go_wp2_with fail; go_ret)
  all_goals exact hFB.out FIN.out


set_option maxRecDepth 100000 in
set_option maxHeartbeats 4000000 in
theorem do_read_user (h : LW w Wd R ln N S H) (a : Option Addr) (n c : Nat) (l : List Int) (Qa : List Nat) (hy : Slc w Qa (.slice a n c) l) (hqa : ∀ k, k ∈ Qa → k ∉ H) (hn : n ≤ 100) (p1 p2 : Int) (hwr : ∀ d, (S.wr d).length ≤ 100000) (hrd : ∀ d, (S.rd d).length ≤ 100000) :
    Calls Tryd.prog 31 #[.pointer (some ⟨Wd, 0, none⟩), .agg #[.int .i64 5, .int .i64 p1, .int .i64 p2, .slice a n c]] w (Did w Wd R ln N H (readdS S true (count p1 ((S.s.l true).x false).length)) false) := by
  obtain ⟨C, hC⟩ : ∃ C, w.heap.size = C := ⟨_, rfl⟩
  obtain ⟨W1, hW1⟩ : ∃ W1, w.alloc (.cells #[.int .i64 5, .int .i64 p1, .int .i64 p2, .slice a n c] 59) = W1 := ⟨_, rfl⟩
  have hb1 : Below w.heap.size w W1 := by rw [← hW1]; exact (Below.refl _ _).alloc (Nat.le_refl _) _
  have hbox : W1.heap[C]? = some (.cells #[.int .i64 5, .int .i64 p1, .int .i64 p2, .slice a n c] 59 (0, 0)) := by rw [← hW1, ← hC]; exact heap_alloc_new w _
  have h1 := h.below hb1
  have hCH : C ∉ H := fun hm => by have := h.lt C hm; omega
  have hy1 := hy.below hb1
  have hFB : Hid (∀ {S' : LS} {r : Bool} {e : Ending} {w' : World}, Did W1 Wd R ln N H S' r e w' → Did w Wd R ln N H S' r e w') := fun h => did_box hb1 h
  have g0 : W1.cell? ⟨C, 0, none⟩ = some (.int .i64 5) := cell_at hbox 0
  have g1 : W1.cell? ⟨C, 1, none⟩ = some (.int .i64 p1) := cell_at hbox 1
  have g2 : W1.cell? ⟨C, 2, none⟩ = some (.int .i64 p2) := cell_at hbox 2
  have g3 : W1.cell? ⟨C, 3, none⟩ = some (.slice a n c) := cell_at hbox 3
  have HBOX := Lib.hid hbox
  have HY := Lib.hid hy1
  have H1 := Lib.hid h1
  have HWR : Hid _ := hwr
  have HRD : Hid _ := hrd
  have HQA : Hid _ := hqa
  have hyl : l.length = n := by obtain ⟨a', n', c', e, _, _, h3, _⟩ := hy; cases e; exact h3
  have hnc : n ≤ c := by obtain ⟨a', n', c', e, h3, _⟩ := hy; cases e; exact h3
  have HYL := Lib.hid hyl
  obtain ⟨F, hp, hFH, hWF, hfin⟩ := h1.line true
  have HF : Hid _ := hfin
  have hCF : C ∉ F := fun hm => hCH (hFH C hm)
  obtain ⟨P, hP⟩ : ∃ P, ln true = P := ⟨_, rfl⟩
  rw [hP] at hp
  have HPT : Hid (∀ {w3 : World} {F' : List Nat} {l' : Line}, IsP w3 P F' N l' → IsP w3 (ln true) F' N l') := fun h => by rw [hP]; exact h
  have w0 : W1.cell? ⟨Wd, 0, none⟩ = some (.pointer (some ⟨P, 0, none⟩)) := by rw [← hP]; exact h1.cells 0
  have HP := Lib.hid hp

  obtain ⟨k, hk⟩ : ∃ k, count p1 ((S.s.l true).x false).length = k := ⟨_, rfl⟩
  have hk6 : k ≤ 65536 := by have := hp.room false; rw [← hk]; have := count_le p1 ((S.s.l true).x false).length; omega
  have HK := Lib.hid hk
  have x0 : W1.cell? ⟨Wd, 5, none⟩ = some (.string (strOfNums (S.rd false))) := h1.cells 5
  have sz1 : (strOfNums (S.rd false)).size ≤ 100000 := by rw [strOfNums_size]; exact hrd false
  have sz2 : (strOfNums (((S.s.l true).x false).take k)).size ≤ 65536 := by rw [strOfNums_size]; simp; omega
  rw [hk]
  clear h h1 hy hy1 hqa hp hfin hP hbox hk hyl hb1 hwr hrd
  go_enter Tryd.func31, Tryd.ntmps31
  go_upto_region 7 with fail

  have hCW : C ≠ Wd := fun e => hCH (by rw [e]; obtain ⟨H0, rfl, _⟩ := H1.out; simp)
  refine wp_region_noPanic ?_
  refine wp_region_held_drew (S := fun w' => w'.cell? ⟨Wd, 0, none⟩ = some (.pointer (some ⟨P, 0, none⟩)) ∧ w'.cell? ⟨C, 1, none⟩ = some (.int .i64 p1)) (by kernel_rfl) (⟨w0, g1⟩) (fun hHeld => ?_)
  refine wpAnyH_take (i := 0) (oi := ⟨some 50, _, _, _, _, _⟩) (v := ?_) rfl (by kernel_rfl) (by kernel_rfl) (by kernel_rfl) (fun _ _ _ h => h) (Or.inl ⟨by rfl, ?_⟩) hHeld ?_
  rotate_left
  · intro w hSw; (try dsimp only at hSw); go_simp; try with_reducible rfl
  try simp only [Act.put, List.setIfInBounds_toArray, List.set_cons_zero, List.set_cons_succ]
  refine wpAnyH_take (i := 1) (oi := ⟨some 51, _, _, _, _, _⟩) (v := ?_) rfl (by kernel_rfl) (by kernel_rfl) (by kernel_rfl) (fun _ _ _ h => h) (Or.inl ⟨by rfl, ?_⟩) hHeld ?_
  rotate_left
  · intro w hSw; (try dsimp only at hSw); go_simp; try with_reducible rfl
  try simp only [Act.put, List.setIfInBounds_toArray, List.set_cons_zero, List.set_cons_succ]
  refine wpAnyH_take (i := 2) (oi := ⟨some 52, _, _, _, _, _⟩) (v := ?_) rfl (by kernel_rfl) (by kernel_rfl) (by kernel_rfl) (fun _ _ _ h => h) (Or.inl ⟨by rfl, ?_⟩) hHeld ?_
  rotate_left
  · intro w hSw; (try dsimp only at hSw); go_simp; try with_reducible rfl
  try simp only [Act.put, List.setIfInBounds_toArray, List.set_cons_zero, List.set_cons_succ]
  refine wpAnyH_take (i := 3) (oi := ⟨some 53, _, _, _, _, _⟩) (v := ?_) rfl (by kernel_rfl) (by kernel_rfl) (by kernel_rfl) (fun _ _ _ h => h) (Or.inl ⟨by rfl, ?_⟩) hHeld ?_
  rotate_left
  · intro w hSw; (try dsimp only at hSw); go_simp; try with_reducible rfl
  try simp only [Act.put, List.setIfInBounds_toArray, List.set_cons_zero, List.set_cons_succ]
  refine wpAnyH_take (i := 5) (oi := ⟨some 55, _, _, _, _, _⟩) (v := ?_) rfl (by kernel_rfl) (by kernel_rfl) (by kernel_rfl) (fun _ _ _ h => h) (Or.inl ⟨by rfl, ?_⟩) hHeld ?_
  rotate_left
  · intro w hSw; (try dsimp only at hSw); go_simp; try with_reducible rfl
  try simp only [Act.put, List.setIfInBounds_toArray, List.set_cons_zero, List.set_cons_succ]
  refine wpAnyH_take (i := 6) (oi := ⟨some 56, _, _, _, _, _⟩) (v := ?_) rfl (by kernel_rfl) (by kernel_rfl) (by kernel_rfl) (fun _ _ _ h => h) (Or.inl ⟨by rfl, ?_⟩) hHeld ?_
  rotate_left
  · intro w hSw; (try dsimp only at hSw); go_simp; try with_reducible rfl
  try simp only [Act.put, List.setIfInBounds_toArray, List.set_cons_zero, List.set_cons_succ]
  refine wpAnyH_take (i := 7) (oi := ⟨some 57, _, _, _, _, _⟩) (v := ?_) rfl (by kernel_rfl) (by kernel_rfl) (by kernel_rfl) (fun _ _ _ h => h) (Or.inl ⟨by rfl, ?_⟩) hHeld ?_
  rotate_left
  · intro w hSw; (try dsimp only at hSw); go_simp; try with_reducible rfl
  try simp only [Act.put, List.setIfInBounds_toArray, List.set_cons_zero, List.set_cons_succ]
  refine wpAnyH_take (i := 8) (oi := ⟨some 58, _, _, _, _, _⟩) (v := ?_) rfl (by kernel_rfl) (by kernel_rfl) (by kernel_rfl) (fun _ _ _ h => h) (Or.inl ⟨by rfl, ?_⟩) hHeld ?_
  rotate_left
  · intro w hSw; (try dsimp only at hSw); go_simp; try with_reducible rfl
  try simp only [Act.put, List.setIfInBounds_toArray, List.set_cons_zero, List.set_cons_succ]
  refine wpAnyH_take (i := 9) (oi := ⟨some 59, _, _, _, _, _⟩) (v := ?_) rfl (by kernel_rfl) (by kernel_rfl) (by kernel_rfl) (fun _ _ _ h => h) (Or.inl ⟨by rfl, ?_⟩) hHeld ?_
  rotate_left
  · intro w hSw; (try dsimp only at hSw); go_simp; try with_reducible rfl
  try simp only [Act.put, List.setIfInBounds_toArray, List.set_cons_zero, List.set_cons_succ]
  refine wpAnyH_take (i := 10) (oi := ⟨some 60, _, _, _, _, _⟩) (v := ?_) rfl (by kernel_rfl) (by kernel_rfl) (by kernel_rfl) (fun _ _ _ h => h) (Or.inl ⟨by rfl, ?_⟩) hHeld ?_
  rotate_left
  · intro w hSw; (try dsimp only at hSw); go_simp; try with_reducible rfl
  try simp only [Act.put, List.setIfInBounds_toArray, List.set_cons_zero, List.set_cons_succ]
  refine wpAnyH_take (i := 14) (oi := ⟨some 64, _, _, _, _, _⟩) (v := ?_) rfl (by kernel_rfl) (by kernel_rfl) (by kernel_rfl) (fun _ _ _ h => h) (Or.inl ⟨by rfl, ?_⟩) hHeld ?_
  rotate_left
  · intro w hSw; (try dsimp only at hSw); go_simp; try with_reducible rfl
  try simp only [Act.put, List.setIfInBounds_toArray, List.set_cons_zero, List.set_cons_succ]
  refine wpAnyH_take (i := 15) (oi := ⟨some 65, _, _, _, _, _⟩) (v := ?_) rfl (by kernel_rfl) (by kernel_rfl) (by kernel_rfl) (fun _ _ _ h => h) (Or.inl ⟨by rfl, ?_⟩) hHeld ?_
  rotate_left
  · intro w hSw; (try dsimp only at hSw); go_simp; try with_reducible rfl
  try simp only [Act.put, List.setIfInBounds_toArray, List.set_cons_zero, List.set_cons_succ]
  refine wpAnyH_ready (rs := [4, 11]) (by kernel_rfl) (by simp) (AllReadyH.cons (o := ⟨some 54, _, _, _, _, _⟩) rfl (fun K hK => ?_) (AllReadyH.cons (o := ⟨some 61, _, _, _, _, _⟩) rfl (fun K hK => ?_) AllReadyH.nil))
  · go_simp
    refine hK.out _ _ (⟨w0, g1⟩) (fun hHeld => ?_)
    clear hK K
    try simp only [Act.put, List.setIfInBounds_toArray, List.set_cons_zero, List.set_cons_succ]
    refine wpAnyH_ready (rs := [11]) (by kernel_rfl) (by simp) (AllReadyH.cons (o := ⟨some 61, _, _, _, _, _⟩) rfl (fun K hK => ?_) AllReadyH.nil)
    go_simp
    refine (p_read_at (w := W1.drewN 1) (F := F) (n := N) (s := S.s.l true) (HP.out.drewN 1) false 0 rfl p1 ((S.s.l true).x false) ((S.s.l true).e false) rfl rfl).mono ?_; rw [HK.out]; rintro e3 w3 ⟨sp3, sc3, rfl, hown3, hp3, hk3⟩; obtain ⟨H3, hW3, hkk3, hss3⟩ := HF.out w3 F _ (HPT.out hp3) ⟨hk3.os, hk3.tape, hk3.output, hk3.size, hk3.block⟩ (fun _ h => .inl h); have hC3 := (hk3.block C (Array.getElem?_eq_some_iff.1 HBOX.out).1 hCF).trans HBOX.out; have c1 : w3.cell? ⟨C, 1, none⟩ = some (.int .i64 p1) := cell_at hC3 1; have c0 : w3.cell? ⟨Wd, 0, none⟩ = some (.pointer (some ⟨P, 0, none⟩)) := (by rw [hW3.cells 0]; exact (H1.out.cells 0).symm.trans w0); have x3 : w3.cell? ⟨Wd, 5, none⟩ = some (.string (strOfNums (S.rd false))) := hW3.cells 5; have xf : w3.frozen? ⟨Wd, 5, none⟩ = false := hW3.frozen 5; have hcv := conv_own hown3; have FIN : Hid (Did W1 Wd R ln N H (readdS S true k) false (.returned (.bool false)) (w3.setCell ⟨Wd, 5, none⟩ (.string (strOfNums (S.rd false) ++ strOfNums (((S.s.l true).x false).take k))))) := ⟨rfl, H3, hW3.readd false (((S.s.l true).x false).take k), hkk3.trans (setW_keeps hW3) hss3, hss3⟩; have y0 : (w3.setCell ⟨Wd, 5, none⟩ (.string (strOfNums (S.rd false) ++ strOfNums (((S.s.l true).x false).take k)))).cell? ⟨Wd, 0, none⟩ = some (.pointer (some ⟨P, 0, none⟩)) := ((hW3.readd false (((S.s.l true).x false).take k)).cells 0).trans ((H1.out.cells 0).symm.trans w0); have y1 : (w3.setCell ⟨Wd, 5, none⟩ (.string (strOfNums (S.rd false) ++ strOfNums (((S.s.l true).x false).take k)))).cell? ⟨C, 1, none⟩ = some (.int .i64 p1) := (cell_at ((heap_setCell_other _ _ _ _ (fun e => hCW e)).trans hC3) 1); clear hown3 hp3 hk3 hC3 hW3 hkk3 hss3
    refine hK.out _ _ (⟨c0, c1⟩) (fun hHeld => ?_)
    clear hK K
    try simp only [Act.put, List.setIfInBounds_toArray, List.set_cons_zero, List.set_cons_succ]
    refine wpAnyH_ready (rs := [12]) (by kernel_rfl) (by simp) (AllReadyH.cons (o := ⟨some 62, _, _, _, _, _⟩) rfl (fun K hK => ?_) AllReadyH.nil)
    go_simp
    refine hK.out _ _ (⟨c0, c1⟩) (fun hHeld => ?_)
    clear hK K
    try simp only [Act.put, List.setIfInBounds_toArray, List.set_cons_zero, List.set_cons_succ]
    refine wpAnyH_take (i := 13) (oi := ⟨some 63, _, _, _, _, _⟩) (v := .string (strOfNums (S.rd false) ++ strOfNums (((S.s.l true).x false).take k))) rfl (by kernel_rfl) (by kernel_rfl) (by kernel_rfl) (fun _ _ _ h => h) (Or.inl ⟨by rfl, ?_⟩) hHeld ?_
    · intro w hSw; go_simp; omega
    try simp only [Act.put, List.setIfInBounds_toArray, List.set_cons_zero, List.set_cons_succ]
    refine wpAnyH_take (i := 16) (oi := ⟨some 66, _, _, _, _, _⟩) (v := ?_) rfl (by kernel_rfl) (by kernel_rfl) (by kernel_rfl) (fun _ _ _ h => h) (Or.inl ⟨by rfl, ?_⟩) hHeld ?_
    rotate_left
    · intro w hSw; (try dsimp only at hSw); go_simp; try with_reducible rfl
    try simp only [Act.put, List.setIfInBounds_toArray, List.set_cons_zero, List.set_cons_succ]
    refine wpAnyH_ready (rs := [17]) (by kernel_rfl) (by simp) (AllReadyH.cons (o := ⟨none, _, _, _, _, _⟩) rfl (fun K hK => ?_) AllReadyH.nil)
    go_simp
    refine hK.out _ _ (⟨y0, y1⟩) (fun hHeld => ?_)
    clear hK K
    try simp only [Act.put, List.setIfInBounds_toArray, List.set_cons_zero, List.set_cons_succ]
    refine wpAnyH_done (by kernel_rfl) ?_ _
    refine NoPanic.normal ?_
    go_wp2_with fail
    go_ret
    exact hFB.out FIN.out
  · go_simp
    refine (p_read_at (w := W1.drewN 1) (F := F) (n := N) (s := S.s.l true) (HP.out.drewN 1) false 0 rfl p1 ((S.s.l true).x false) ((S.s.l true).e false) rfl rfl).mono ?_; rw [HK.out]; rintro e3 w3 ⟨sp3, sc3, rfl, hown3, hp3, hk3⟩; obtain ⟨H3, hW3, hkk3, hss3⟩ := HF.out w3 F _ (HPT.out hp3) ⟨hk3.os, hk3.tape, hk3.output, hk3.size, hk3.block⟩ (fun _ h => .inl h); have hC3 := (hk3.block C (Array.getElem?_eq_some_iff.1 HBOX.out).1 hCF).trans HBOX.out; have c1 : w3.cell? ⟨C, 1, none⟩ = some (.int .i64 p1) := cell_at hC3 1; have c0 : w3.cell? ⟨Wd, 0, none⟩ = some (.pointer (some ⟨P, 0, none⟩)) := (by rw [hW3.cells 0]; exact (H1.out.cells 0).symm.trans w0); have x3 : w3.cell? ⟨Wd, 5, none⟩ = some (.string (strOfNums (S.rd false))) := hW3.cells 5; have xf : w3.frozen? ⟨Wd, 5, none⟩ = false := hW3.frozen 5; have hcv := conv_own hown3; have FIN : Hid (Did W1 Wd R ln N H (readdS S true k) false (.returned (.bool false)) (w3.setCell ⟨Wd, 5, none⟩ (.string (strOfNums (S.rd false) ++ strOfNums (((S.s.l true).x false).take k))))) := ⟨rfl, H3, hW3.readd false (((S.s.l true).x false).take k), hkk3.trans (setW_keeps hW3) hss3, hss3⟩; have y0 : (w3.setCell ⟨Wd, 5, none⟩ (.string (strOfNums (S.rd false) ++ strOfNums (((S.s.l true).x false).take k)))).cell? ⟨Wd, 0, none⟩ = some (.pointer (some ⟨P, 0, none⟩)) := ((hW3.readd false (((S.s.l true).x false).take k)).cells 0).trans ((H1.out.cells 0).symm.trans w0); have y1 : (w3.setCell ⟨Wd, 5, none⟩ (.string (strOfNums (S.rd false) ++ strOfNums (((S.s.l true).x false).take k)))).cell? ⟨C, 1, none⟩ = some (.int .i64 p1) := (cell_at ((heap_setCell_other _ _ _ _ (fun e => hCW e)).trans hC3) 1); clear hown3 hp3 hk3 hC3 hW3 hkk3 hss3
    refine hK.out _ _ (⟨c0, c1⟩) (fun hHeld => ?_)
    clear hK K
    try simp only [Act.put, List.setIfInBounds_toArray, List.set_cons_zero, List.set_cons_succ]
    refine wpAnyH_ready (rs := [4, 12]) (by kernel_rfl) (by simp) (AllReadyH.cons (o := ⟨some 54, _, _, _, _, _⟩) rfl (fun K hK => ?_) (AllReadyH.cons (o := ⟨some 62, _, _, _, _, _⟩) rfl (fun K hK => ?_) AllReadyH.nil))
    · go_simp
      refine hK.out _ _ (⟨c0, c1⟩) (fun hHeld => ?_)
      clear hK K
      try simp only [Act.put, List.setIfInBounds_toArray, List.set_cons_zero, List.set_cons_succ]
      refine wpAnyH_ready (rs := [12]) (by kernel_rfl) (by simp) (AllReadyH.cons (o := ⟨some 62, _, _, _, _, _⟩) rfl (fun K hK => ?_) AllReadyH.nil)
      go_simp
      refine hK.out _ _ (⟨c0, c1⟩) (fun hHeld => ?_)
      clear hK K
      try simp only [Act.put, List.setIfInBounds_toArray, List.set_cons_zero, List.set_cons_succ]
      refine wpAnyH_take (i := 13) (oi := ⟨some 63, _, _, _, _, _⟩) (v := .string (strOfNums (S.rd false) ++ strOfNums (((S.s.l true).x false).take k))) rfl (by kernel_rfl) (by kernel_rfl) (by kernel_rfl) (fun _ _ _ h => h) (Or.inl ⟨by rfl, ?_⟩) hHeld ?_
      · intro w hSw; go_simp; omega
      try simp only [Act.put, List.setIfInBounds_toArray, List.set_cons_zero, List.set_cons_succ]
      refine wpAnyH_take (i := 16) (oi := ⟨some 66, _, _, _, _, _⟩) (v := ?_) rfl (by kernel_rfl) (by kernel_rfl) (by kernel_rfl) (fun _ _ _ h => h) (Or.inl ⟨by rfl, ?_⟩) hHeld ?_
      rotate_left
      · intro w hSw; (try dsimp only at hSw); go_simp; try with_reducible rfl
      try simp only [Act.put, List.setIfInBounds_toArray, List.set_cons_zero, List.set_cons_succ]
      refine wpAnyH_ready (rs := [17]) (by kernel_rfl) (by simp) (AllReadyH.cons (o := ⟨none, _, _, _, _, _⟩) rfl (fun K hK => ?_) AllReadyH.nil)
      go_simp
      refine hK.out _ _ (⟨y0, y1⟩) (fun hHeld => ?_)
      clear hK K
      try simp only [Act.put, List.setIfInBounds_toArray, List.set_cons_zero, List.set_cons_succ]
      refine wpAnyH_done (by kernel_rfl) ?_ _
      refine NoPanic.normal ?_
      go_wp2_with fail
      go_ret
      exact hFB.out FIN.out
    · go_simp
      refine hK.out _ _ (⟨c0, c1⟩) (fun hHeld => ?_)
      clear hK K
      try simp only [Act.put, List.setIfInBounds_toArray, List.set_cons_zero, List.set_cons_succ]
      refine wpAnyH_ready (rs := [4]) (by kernel_rfl) (by simp) (AllReadyH.cons (o := ⟨some 54, _, _, _, _, _⟩) rfl (fun K hK => ?_) AllReadyH.nil)
      go_simp
      refine hK.out _ _ (⟨c0, c1⟩) (fun hHeld => ?_)
      clear hK K
      try simp only [Act.put, List.setIfInBounds_toArray, List.set_cons_zero, List.set_cons_succ]
      refine wpAnyH_take (i := 13) (oi := ⟨some 63, _, _, _, _, _⟩) (v := .string (strOfNums (S.rd false) ++ strOfNums (((S.s.l true).x false).take k))) rfl (by kernel_rfl) (by kernel_rfl) (by kernel_rfl) (fun _ _ _ h => h) (Or.inl ⟨by rfl, ?_⟩) hHeld ?_
      · intro w hSw; go_simp; omega
      try simp only [Act.put, List.setIfInBounds_toArray, List.set_cons_zero, List.set_cons_succ]
      refine wpAnyH_take (i := 16) (oi := ⟨some 66, _, _, _, _, _⟩) (v := ?_) rfl (by kernel_rfl) (by kernel_rfl) (by kernel_rfl) (fun _ _ _ h => h) (Or.inl ⟨by rfl, ?_⟩) hHeld ?_
      rotate_left
      · intro w hSw; (try dsimp only at hSw); go_simp; try with_reducible rfl
      try simp only [Act.put, List.setIfInBounds_toArray, List.set_cons_zero, List.set_cons_succ]
      refine wpAnyH_ready (rs := [17]) (by kernel_rfl) (by simp) (AllReadyH.cons (o := ⟨none, _, _, _, _, _⟩) rfl (fun K hK => ?_) AllReadyH.nil)
      go_simp
      refine hK.out _ _ (⟨y0, y1⟩) (fun hHeld => ?_)
      clear hK K
      try simp only [Act.put, List.setIfInBounds_toArray, List.set_cons_zero, List.set_cons_succ]
      refine wpAnyH_done (by kernel_rfl) ?_ _
      refine NoPanic.normal ?_
      go_wp2_with fail
      go_ret
      exact hFB.out FIN.out


set_option maxRecDepth 100000 in
set_option maxHeartbeats 4000000 in
theorem do_hang_user (h : LW w Wd R ln N S H) (a : Option Addr) (n c : Nat) (l : List Int) (Qa : List Nat) (hy : Slc w Qa (.slice a n c) l) (hqa : ∀ k, k ∈ Qa → k ∉ H) (hn : n ≤ 100) (p1 p2 : Int) (hwr : ∀ d, (S.wr d).length ≤ 100000) (hrd : ∀ d, (S.rd d).length ≤ 100000) :
    Calls Tryd.prog 31 #[.pointer (some ⟨Wd, 0, none⟩), .agg #[.int .i64 6, .int .i64 p1, .int .i64 p2, .slice a n c]] w (Did w Wd R ln N H (hangS S true) false) := by
  obtain ⟨C, hC⟩ : ∃ C, w.heap.size = C := ⟨_, rfl⟩
  obtain ⟨W1, hW1⟩ : ∃ W1, w.alloc (.cells #[.int .i64 6, .int .i64 p1, .int .i64 p2, .slice a n c] 59) = W1 := ⟨_, rfl⟩
  have hb1 : Below w.heap.size w W1 := by rw [← hW1]; exact (Below.refl _ _).alloc (Nat.le_refl _) _
  have hbox : W1.heap[C]? = some (.cells #[.int .i64 6, .int .i64 p1, .int .i64 p2, .slice a n c] 59 (0, 0)) := by rw [← hW1, ← hC]; exact heap_alloc_new w _
  have h1 := h.below hb1
  have hCH : C ∉ H := fun hm => by have := h.lt C hm; omega
  have hy1 := hy.below hb1
  have hFB : Hid (∀ {S' : LS} {r : Bool} {e : Ending} {w' : World}, Did W1 Wd R ln N H S' r e w' → Did w Wd R ln N H S' r e w') := fun h => did_box hb1 h
  have g0 : W1.cell? ⟨C, 0, none⟩ = some (.int .i64 6) := cell_at hbox 0
  have g1 : W1.cell? ⟨C, 1, none⟩ = some (.int .i64 p1) := cell_at hbox 1
  have g2 : W1.cell? ⟨C, 2, none⟩ = some (.int .i64 p2) := cell_at hbox 2
  have g3 : W1.cell? ⟨C, 3, none⟩ = some (.slice a n c) := cell_at hbox 3
  have HBOX := Lib.hid hbox
  have HY := Lib.hid hy1
  have H1 := Lib.hid h1
  have HWR : Hid _ := hwr
  have HRD : Hid _ := hrd
  have HQA : Hid _ := hqa
  have hyl : l.length = n := by obtain ⟨a', n', c', e, _, _, h3, _⟩ := hy; cases e; exact h3
  have hnc : n ≤ c := by obtain ⟨a', n', c', e, h3, _⟩ := hy; cases e; exact h3
  have HYL := Lib.hid hyl
  obtain ⟨F, hp, hFH, hWF, hfin⟩ := h1.line true
  have HF : Hid _ := hfin
  have hCF : C ∉ F := fun hm => hCH (hFH C hm)
  obtain ⟨P, hP⟩ : ∃ P, ln true = P := ⟨_, rfl⟩
  rw [hP] at hp
  have HPT : Hid (∀ {w3 : World} {F' : List Nat} {l' : Line}, IsP w3 P F' N l' → IsP w3 (ln true) F' N l') := fun h => by rw [hP]; exact h
  have w0 : W1.cell? ⟨Wd, 0, none⟩ = some (.pointer (some ⟨P, 0, none⟩)) := by rw [← hP]; exact h1.cells 0
  have HP := Lib.hid hp

  clear h h1 hy hy1 hqa hp hfin hP hbox hyl hb1 hwr hrd
  go_enter Tryd.func31, Tryd.ntmps31
  go_wp2_with fail
  refine (p_hang (w := W1) (F := F) (n := N) (s := S.s.l true) HP.out true 0 rfl).mono ?_
  rintro e3 w3 ⟨rfl, hp3, hk3⟩
  obtain ⟨H3, hW3, hkk3, hss3⟩ := HF.out w3 F _ (HPT.out hp3) hk3 (fun _ h => .inl h)
  have FIN : Hid (Did W1 Wd R ln N H (hangS S true) false (.returned (.bool false)) w3) := ⟨rfl, H3, hW3, hkk3, hss3⟩
  clear hp3 hk3 hW3 hkk3 hss3
  go_wp2_with fail
  go_ret
  exact hFB.out FIN.out


set_option maxRecDepth 100000 in
set_option maxHeartbeats 4000000 in
theorem do_write_child (h : LW w Wd R ln N S H) (a : Option Addr) (n c : Nat) (l : List Int) (Qa : List Nat) (hy : Slc w Qa (.slice a n c) l) (hqa : ∀ k, k ∈ Qa → k ∉ H) (hn : n ≤ 100) (p1 p2 : Int) (hwr : ∀ d, (S.wr d).length ≤ 100000) (hrd : ∀ d, (S.rd d).length ≤ 100000) :
    Calls Tryd.prog 31 #[.pointer (some ⟨Wd, 0, none⟩), .agg #[.int .i64 7, .int .i64 p1, .int .i64 p2, .slice a n c]] w (Did w Wd R ln N H (wroteS S false (took l.length ((S.s.l false).x false).length N ((S.s.l false).e false)) l) false) := by
  obtain ⟨C, hC⟩ : ∃ C, w.heap.size = C := ⟨_, rfl⟩
  obtain ⟨W1, hW1⟩ : ∃ W1, w.alloc (.cells #[.int .i64 7, .int .i64 p1, .int .i64 p2, .slice a n c] 59) = W1 := ⟨_, rfl⟩
  have hb1 : Below w.heap.size w W1 := by rw [← hW1]; exact (Below.refl _ _).alloc (Nat.le_refl _) _
  have hbox : W1.heap[C]? = some (.cells #[.int .i64 7, .int .i64 p1, .int .i64 p2, .slice a n c] 59 (0, 0)) := by rw [← hW1, ← hC]; exact heap_alloc_new w _
  have h1 := h.below hb1
  have hCH : C ∉ H := fun hm => by have := h.lt C hm; omega
  have hy1 := hy.below hb1
  have hFB : Hid (∀ {S' : LS} {r : Bool} {e : Ending} {w' : World}, Did W1 Wd R ln N H S' r e w' → Did w Wd R ln N H S' r e w') := fun h => did_box hb1 h
  have g0 : W1.cell? ⟨C, 0, none⟩ = some (.int .i64 7) := cell_at hbox 0
  have g1 : W1.cell? ⟨C, 1, none⟩ = some (.int .i64 p1) := cell_at hbox 1
  have g2 : W1.cell? ⟨C, 2, none⟩ = some (.int .i64 p2) := cell_at hbox 2
  have g3 : W1.cell? ⟨C, 3, none⟩ = some (.slice a n c) := cell_at hbox 3
  have HBOX := Lib.hid hbox
  have HY := Lib.hid hy1
  have H1 := Lib.hid h1
  have HWR : Hid _ := hwr
  have HRD : Hid _ := hrd
  have HQA : Hid _ := hqa
  have hyl : l.length = n := by obtain ⟨a', n', c', e, _, _, h3, _⟩ := hy; cases e; exact h3
  have hnc : n ≤ c := by obtain ⟨a', n', c', e, h3, _⟩ := hy; cases e; exact h3
  have HYL := Lib.hid hyl
  obtain ⟨F, hp, hFH, hWF, hfin⟩ := h1.line false
  have HF : Hid _ := hfin
  have hCF : C ∉ F := fun hm => hCH (hFH C hm)
  obtain ⟨P, hP⟩ : ∃ P, ln false = P := ⟨_, rfl⟩
  rw [hP] at hp
  have HPT : Hid (∀ {w3 : World} {F' : List Nat} {l' : Line}, IsP w3 P F' N l' → IsP w3 (ln false) F' N l') := fun h => by rw [hP]; exact h
  have w0 : W1.cell? ⟨Wd, 1, none⟩ = some (.pointer (some ⟨P, 0, none⟩)) := by rw [← hP]; exact h1.cells 1
  have HP := Lib.hid hp

  have hGV : Hid (qb.GivenIn (W1.drewN 1) F a n c l) := (hy1.below (below_drewN (Below.refl _ _) 1)).given (fun k h1 h2 => hqa k h1 (hFH k h2))
  have HQF : Hid (∀ k, k ∈ Qa → k ∉ F) := fun k h1 h2 => hqa k h1 (hFH k h2)
  rw [hyl]
  obtain ⟨k, hk⟩ : ∃ k, took n ((S.s.l false).x false).length N ((S.s.l false).e false) = k := ⟨_, rfl⟩
  have hkn : k ≤ n := by rw [← hk]; exact took_le _ _ _ _
  have hkc : k ≤ c := by omega
  have HK := Lib.hid hk
  have x0 : W1.cell? ⟨Wd, 4, none⟩ = some (.string (strOfNums (S.wr false))) := h1.cells 4
  rw [hk]
  clear h h1 hy hy1 hqa hp hfin hP hbox hk hyl hb1 hwr hrd
  go_enter Tryd.func31, Tryd.ntmps31
  go_upto_region 11 with fail

  refine wp_region_noPanic ?_
  refine wp_region_held_drew (S := fun w' => w'.cell? ⟨Wd, 1, none⟩ = some (.pointer (some ⟨P, 0, none⟩)) ∧ w'.cell? ⟨C, 3, none⟩ = some (.slice a n c)) (by kernel_rfl) (⟨w0, g3⟩) (fun hHeld => ?_)
  refine wpAnyH_take (i := 0) (oi := ⟨some 76, _, _, _, _, _⟩) (v := ?_) rfl (by kernel_rfl) (by kernel_rfl) (by kernel_rfl) (fun _ _ _ h => h) (Or.inl ⟨by rfl, ?_⟩) hHeld ?_
  rotate_left
  · intro w hSw; (try dsimp only at hSw); go_simp; try with_reducible rfl
  try simp only [Act.put, List.setIfInBounds_toArray, List.set_cons_zero, List.set_cons_succ]
  refine wpAnyH_take (i := 1) (oi := ⟨some 77, _, _, _, _, _⟩) (v := ?_) rfl (by kernel_rfl) (by kernel_rfl) (by kernel_rfl) (fun _ _ _ h => h) (Or.inl ⟨by rfl, ?_⟩) hHeld ?_
  rotate_left
  · intro w hSw; (try dsimp only at hSw); go_simp; try with_reducible rfl
  try simp only [Act.put, List.setIfInBounds_toArray, List.set_cons_zero, List.set_cons_succ]
  refine wpAnyH_take (i := 2) (oi := ⟨some 78, _, _, _, _, _⟩) (v := ?_) rfl (by kernel_rfl) (by kernel_rfl) (by kernel_rfl) (fun _ _ _ h => h) (Or.inl ⟨by rfl, ?_⟩) hHeld ?_
  rotate_left
  · intro w hSw; (try dsimp only at hSw); go_simp; try with_reducible rfl
  try simp only [Act.put, List.setIfInBounds_toArray, List.set_cons_zero, List.set_cons_succ]
  refine wpAnyH_take (i := 3) (oi := ⟨some 79, _, _, _, _, _⟩) (v := ?_) rfl (by kernel_rfl) (by kernel_rfl) (by kernel_rfl) (fun _ _ _ h => h) (Or.inl ⟨by rfl, ?_⟩) hHeld ?_
  rotate_left
  · intro w hSw; (try dsimp only at hSw); go_simp; try with_reducible rfl
  try simp only [Act.put, List.setIfInBounds_toArray, List.set_cons_zero, List.set_cons_succ]
  refine wpAnyH_take (i := 4) (oi := ⟨some 80, _, _, _, _, _⟩) (v := ?_) rfl (by kernel_rfl) (by kernel_rfl) (by kernel_rfl) (fun _ _ _ h => h) (Or.inl ⟨by rfl, ?_⟩) hHeld ?_
  rotate_left
  · intro w hSw; (try dsimp only at hSw); go_simp; try with_reducible rfl
  try simp only [Act.put, List.setIfInBounds_toArray, List.set_cons_zero, List.set_cons_succ]
  refine wpAnyH_take (i := 5) (oi := ⟨some 81, _, _, _, _, _⟩) (v := ?_) rfl (by kernel_rfl) (by kernel_rfl) (by kernel_rfl) (fun _ _ _ h => h) (Or.inl ⟨by rfl, ?_⟩) hHeld ?_
  rotate_left
  · intro w hSw; (try dsimp only at hSw); go_simp; try with_reducible rfl
  try simp only [Act.put, List.setIfInBounds_toArray, List.set_cons_zero, List.set_cons_succ]
  refine wpAnyH_take (i := 7) (oi := ⟨some 83, _, _, _, _, _⟩) (v := ?_) rfl (by kernel_rfl) (by kernel_rfl) (by kernel_rfl) (fun _ _ _ h => h) (Or.inl ⟨by rfl, ?_⟩) hHeld ?_
  rotate_left
  · intro w hSw; (try dsimp only at hSw); go_simp; try with_reducible rfl
  try simp only [Act.put, List.setIfInBounds_toArray, List.set_cons_zero, List.set_cons_succ]
  refine wpAnyH_take (i := 8) (oi := ⟨some 84, _, _, _, _, _⟩) (v := ?_) rfl (by kernel_rfl) (by kernel_rfl) (by kernel_rfl) (fun _ _ _ h => h) (Or.inl ⟨by rfl, ?_⟩) hHeld ?_
  rotate_left
  · intro w hSw; (try dsimp only at hSw); go_simp; try with_reducible rfl
  try simp only [Act.put, List.setIfInBounds_toArray, List.set_cons_zero, List.set_cons_succ]
  refine wpAnyH_take (i := 9) (oi := ⟨some 85, _, _, _, _, _⟩) (v := ?_) rfl (by kernel_rfl) (by kernel_rfl) (by kernel_rfl) (fun _ _ _ h => h) (Or.inl ⟨by rfl, ?_⟩) hHeld ?_
  rotate_left
  · intro w hSw; (try dsimp only at hSw); go_simp; try with_reducible rfl
  try simp only [Act.put, List.setIfInBounds_toArray, List.set_cons_zero, List.set_cons_succ]
  refine wpAnyH_ready (rs := [6]) (by kernel_rfl) (by simp) (AllReadyH.cons (o := ⟨some 82, _, _, _, _, _⟩) rfl (fun K hK => ?_) AllReadyH.nil)
  go_simp
  refine (p_write_at (w := W1.drewN 1) (F := F) (n := N) (s := S.s.l false) (HP.out.drewN 1) false 1 rfl a n c l hGV.out ((S.s.l false).x false) ((S.s.l false).e false) rfl rfl).mono ?_; rw [HK.out]; rintro e3 w3 ⟨rfl, F3, hp3, hk3, hs3⟩; obtain ⟨H3, hW3, hkk3, hss3⟩ := HF.out w3 F3 _ (HPT.out hp3) ⟨hk3.os, hk3.tape, hk3.output, hk3.size, hk3.block⟩ hs3; have hC3 := (hk3.block C (Array.getElem?_eq_some_iff.1 HBOX.out).1 hCF).trans HBOX.out; have c3 : w3.cell? ⟨C, 3, none⟩ = some (.slice a n c) := cell_at hC3 3; have c0 : w3.cell? ⟨Wd, 1, none⟩ = some (.pointer (some ⟨P, 0, none⟩)) := (by rw [hW3.cells 1]; exact (H1.out.cells 1).symm.trans w0); have x3 : w3.cell? ⟨Wd, 4, none⟩ = some (.string (strOfNums (S.wr false))) := hW3.cells 4; have xf : w3.frozen? ⟨Wd, 4, none⟩ = false := hW3.frozen 4; have HW3 := Lib.hid hW3; have HKK := Lib.hid hkk3; have HSS : Hid _ := hss3; have HY3 := Lib.hid (HY.out.keeps (X := F) ⟨hk3.os, hk3.tape, hk3.output, hk3.size, hk3.block⟩ HQF.out); clear hp3 hk3 hs3 hC3 hW3 hkk3 hss3
  refine hK.out _ _ (⟨c0, c3⟩) (fun hHeld => ?_)
  clear hK K
  try simp only [Act.put, List.setIfInBounds_toArray, List.set_cons_zero, List.set_cons_succ]
  refine wpAnyH_take (i := 10) (oi := ⟨some 86, _, _, _, _, _⟩) (v := .int .i64 k) rfl (by kernel_rfl) (by kernel_rfl) (by kernel_rfl) (fun _ _ _ h => h) (Or.inl ⟨by rfl, ?_⟩) hHeld ?_
  · intro w hSw; go_simp; try (intros; omega)
  try simp only [Act.put, List.setIfInBounds_toArray, List.set_cons_zero, List.set_cons_succ]
  refine wpAnyH_take (i := 11) (oi := ⟨some 87, _, _, _, _, _⟩) (v := .int .i64 k) rfl (by kernel_rfl) (by kernel_rfl) (by kernel_rfl) (fun _ _ _ h => h) (Or.inl ⟨by rfl, ?_⟩) hHeld ?_
  · intro w hSw; go_simp; try (intros; omega)
  try simp only [Act.put, List.setIfInBounds_toArray, List.set_cons_zero, List.set_cons_succ]
  refine wpAnyH_take (i := 12) (oi := ⟨some 6, _, _, _, _, _⟩) (v := ?_) rfl (by kernel_rfl) (by kernel_rfl) (by kernel_rfl) (fun _ _ _ h => h) (Or.inl ⟨by rfl, ?_⟩) hHeld ?_
  rotate_left
  · intro w hSw; (try dsimp only at hSw); go_simp; try with_reducible rfl
  try simp only [Act.put, List.setIfInBounds_toArray, List.set_cons_zero, List.set_cons_succ]
  refine wpAnyH_done (by kernel_rfl) ?_ _
  refine NoPanic.normal ?_

  have hcv : (convert 22 9 (.slice a k c)).run Tryd.prog w3.drew = .ok (.string (strOfNums (l.take k))) w3.drew := ((HY3.out.cut hkn).below (w' := w3.drew) (below_drewN (Below.refl _ _) 1)).conv
  have sz1 : (strOfNums (S.wr false)).size ≤ 100000 := by rw [strOfNums_size]; exact HWR.out false
  have sz2 : (strOfNums (l.take k)).size ≤ 100 := by rw [strOfNums_size]; simp; omega
  have FIN : Hid (Did W1 Wd R ln N H (wroteS S false k l) false (.returned (.bool false)) ((w3.drewN 1).setCell ⟨Wd, 4, none⟩ (.string (strOfNums (S.wr false) ++ strOfNums (l.take k))))) := by
    have h4 := (HW3.out.below (below_drewN (Below.refl _ _) 1)).wrote false (l.take k)
    refine ⟨rfl, H3, h4, (HKK.out.trans (Keeps.of_below (below_drewN (Below.refl _ _) 1) H) (fun _ h => .inl h)).trans (setW_keeps (HW3.out.below (below_drewN (Below.refl _ _) 1))) HSS.out, HSS.out⟩
  clear HW3 HKK HSS HY3 HBOX H1 HY g0 g1 g2 g3 w0 x0 c0 hHeld HK hGV
  go_wp2_with fail
  go_region
  all_goals (go_wp2_with fail; go_ret)
  all_goals exact hFB.out FIN.out


set_option maxRecDepth 100000 in
set_option maxHeartbeats 4000000 in
theorem do_read_child (h : LW w Wd R ln N S H) (a : Option Addr) (n c : Nat) (l : List Int) (Qa : List Nat) (hy : Slc w Qa (.slice a n c) l) (hqa : ∀ k, k ∈ Qa → k ∉ H) (hn : n ≤ 100) (p1 p2 : Int) (hwr : ∀ d, (S.wr d).length ≤ 100000) (hrd : ∀ d, (S.rd d).length ≤ 100000) :
    Calls Tryd.prog 31 #[.pointer (some ⟨Wd, 0, none⟩), .agg #[.int .i64 8, .int .i64 p1, .int .i64 p2, .slice a n c]] w (Did w Wd R ln N H (readdS S false (count p1 ((S.s.l false).x true).length)) false) := by
  obtain ⟨C, hC⟩ : ∃ C, w.heap.size = C := ⟨_, rfl⟩
  obtain ⟨W1, hW1⟩ : ∃ W1, w.alloc (.cells #[.int .i64 8, .int .i64 p1, .int .i64 p2, .slice a n c] 59) = W1 := ⟨_, rfl⟩
  have hb1 : Below w.heap.size w W1 := by rw [← hW1]; exact (Below.refl _ _).alloc (Nat.le_refl _) _
  have hbox : W1.heap[C]? = some (.cells #[.int .i64 8, .int .i64 p1, .int .i64 p2, .slice a n c] 59 (0, 0)) := by rw [← hW1, ← hC]; exact heap_alloc_new w _
  have h1 := h.below hb1
  have hCH : C ∉ H := fun hm => by have := h.lt C hm; omega
  have hy1 := hy.below hb1
  have hFB : Hid (∀ {S' : LS} {r : Bool} {e : Ending} {w' : World}, Did W1 Wd R ln N H S' r e w' → Did w Wd R ln N H S' r e w') := fun h => did_box hb1 h
  have g0 : W1.cell? ⟨C, 0, none⟩ = some (.int .i64 8) := cell_at hbox 0
  have g1 : W1.cell? ⟨C, 1, none⟩ = some (.int .i64 p1) := cell_at hbox 1
  have g2 : W1.cell? ⟨C, 2, none⟩ = some (.int .i64 p2) := cell_at hbox 2
  have g3 : W1.cell? ⟨C, 3, none⟩ = some (.slice a n c) := cell_at hbox 3
  have HBOX := Lib.hid hbox
  have HY := Lib.hid hy1
  have H1 := Lib.hid h1
  have HWR : Hid _ := hwr
  have HRD : Hid _ := hrd
  have HQA : Hid _ := hqa
  have hyl : l.length = n := by obtain ⟨a', n', c', e, _, _, h3, _⟩ := hy; cases e; exact h3
  have hnc : n ≤ c := by obtain ⟨a', n', c', e, h3, _⟩ := hy; cases e; exact h3
  have HYL := Lib.hid hyl
  obtain ⟨F, hp, hFH, hWF, hfin⟩ := h1.line false
  have HF : Hid _ := hfin
  have hCF : C ∉ F := fun hm => hCH (hFH C hm)
  obtain ⟨P, hP⟩ : ∃ P, ln false = P := ⟨_, rfl⟩
  rw [hP] at hp
  have HPT : Hid (∀ {w3 : World} {F' : List Nat} {l' : Line}, IsP w3 P F' N l' → IsP w3 (ln false) F' N l') := fun h => by rw [hP]; exact h
  have w0 : W1.cell? ⟨Wd, 1, none⟩ = some (.pointer (some ⟨P, 0, none⟩)) := by rw [← hP]; exact h1.cells 1
  have HP := Lib.hid hp

  obtain ⟨k, hk⟩ : ∃ k, count p1 ((S.s.l false).x true).length = k := ⟨_, rfl⟩
  have hk6 : k ≤ 65536 := by have := hp.room true; rw [← hk]; have := count_le p1 ((S.s.l false).x true).length; omega
  have HK := Lib.hid hk
  have x0 : W1.cell? ⟨Wd, 6, none⟩ = some (.string (strOfNums (S.rd true))) := h1.cells 6
  have sz1 : (strOfNums (S.rd true)).size ≤ 100000 := by rw [strOfNums_size]; exact hrd true
  have sz2 : (strOfNums (((S.s.l false).x true).take k)).size ≤ 65536 := by rw [strOfNums_size]; simp; omega
  rw [hk]
  clear h h1 hy hy1 hqa hp hfin hP hbox hk hyl hb1 hwr hrd
  go_enter Tryd.func31, Tryd.ntmps31
  go_upto_region 14 with fail

  have hCW : C ≠ Wd := fun e => hCH (by rw [e]; obtain ⟨H0, rfl, _⟩ := H1.out; simp)
  refine wp_region_noPanic ?_
  refine wp_region_held_drew (S := fun w' => w'.cell? ⟨Wd, 1, none⟩ = some (.pointer (some ⟨P, 0, none⟩)) ∧ w'.cell? ⟨C, 1, none⟩ = some (.int .i64 p1)) (by kernel_rfl) (⟨w0, g1⟩) (fun hHeld => ?_)
  refine wpAnyH_take (i := 0) (oi := ⟨some 104, _, _, _, _, _⟩) (v := ?_) rfl (by kernel_rfl) (by kernel_rfl) (by kernel_rfl) (fun _ _ _ h => h) (Or.inl ⟨by rfl, ?_⟩) hHeld ?_
  rotate_left
  · intro w hSw; (try dsimp only at hSw); go_simp; try with_reducible rfl
  try simp only [Act.put, List.setIfInBounds_toArray, List.set_cons_zero, List.set_cons_succ]
  refine wpAnyH_take (i := 1) (oi := ⟨some 105, _, _, _, _, _⟩) (v := ?_) rfl (by kernel_rfl) (by kernel_rfl) (by kernel_rfl) (fun _ _ _ h => h) (Or.inl ⟨by rfl, ?_⟩) hHeld ?_
  rotate_left
  · intro w hSw; (try dsimp only at hSw); go_simp; try with_reducible rfl
  try simp only [Act.put, List.setIfInBounds_toArray, List.set_cons_zero, List.set_cons_succ]
  refine wpAnyH_take (i := 2) (oi := ⟨some 106, _, _, _, _, _⟩) (v := ?_) rfl (by kernel_rfl) (by kernel_rfl) (by kernel_rfl) (fun _ _ _ h => h) (Or.inl ⟨by rfl, ?_⟩) hHeld ?_
  rotate_left
  · intro w hSw; (try dsimp only at hSw); go_simp; try with_reducible rfl
  try simp only [Act.put, List.setIfInBounds_toArray, List.set_cons_zero, List.set_cons_succ]
  refine wpAnyH_take (i := 3) (oi := ⟨some 107, _, _, _, _, _⟩) (v := ?_) rfl (by kernel_rfl) (by kernel_rfl) (by kernel_rfl) (fun _ _ _ h => h) (Or.inl ⟨by rfl, ?_⟩) hHeld ?_
  rotate_left
  · intro w hSw; (try dsimp only at hSw); go_simp; try with_reducible rfl
  try simp only [Act.put, List.setIfInBounds_toArray, List.set_cons_zero, List.set_cons_succ]
  refine wpAnyH_take (i := 5) (oi := ⟨some 109, _, _, _, _, _⟩) (v := ?_) rfl (by kernel_rfl) (by kernel_rfl) (by kernel_rfl) (fun _ _ _ h => h) (Or.inl ⟨by rfl, ?_⟩) hHeld ?_
  rotate_left
  · intro w hSw; (try dsimp only at hSw); go_simp; try with_reducible rfl
  try simp only [Act.put, List.setIfInBounds_toArray, List.set_cons_zero, List.set_cons_succ]
  refine wpAnyH_take (i := 6) (oi := ⟨some 110, _, _, _, _, _⟩) (v := ?_) rfl (by kernel_rfl) (by kernel_rfl) (by kernel_rfl) (fun _ _ _ h => h) (Or.inl ⟨by rfl, ?_⟩) hHeld ?_
  rotate_left
  · intro w hSw; (try dsimp only at hSw); go_simp; try with_reducible rfl
  try simp only [Act.put, List.setIfInBounds_toArray, List.set_cons_zero, List.set_cons_succ]
  refine wpAnyH_take (i := 7) (oi := ⟨some 111, _, _, _, _, _⟩) (v := ?_) rfl (by kernel_rfl) (by kernel_rfl) (by kernel_rfl) (fun _ _ _ h => h) (Or.inl ⟨by rfl, ?_⟩) hHeld ?_
  rotate_left
  · intro w hSw; (try dsimp only at hSw); go_simp; try with_reducible rfl
  try simp only [Act.put, List.setIfInBounds_toArray, List.set_cons_zero, List.set_cons_succ]
  refine wpAnyH_take (i := 8) (oi := ⟨some 112, _, _, _, _, _⟩) (v := ?_) rfl (by kernel_rfl) (by kernel_rfl) (by kernel_rfl) (fun _ _ _ h => h) (Or.inl ⟨by rfl, ?_⟩) hHeld ?_
  rotate_left
  · intro w hSw; (try dsimp only at hSw); go_simp; try with_reducible rfl
  try simp only [Act.put, List.setIfInBounds_toArray, List.set_cons_zero, List.set_cons_succ]
  refine wpAnyH_take (i := 9) (oi := ⟨some 113, _, _, _, _, _⟩) (v := ?_) rfl (by kernel_rfl) (by kernel_rfl) (by kernel_rfl) (fun _ _ _ h => h) (Or.inl ⟨by rfl, ?_⟩) hHeld ?_
  rotate_left
  · intro w hSw; (try dsimp only at hSw); go_simp; try with_reducible rfl
  try simp only [Act.put, List.setIfInBounds_toArray, List.set_cons_zero, List.set_cons_succ]
  refine wpAnyH_take (i := 10) (oi := ⟨some 114, _, _, _, _, _⟩) (v := ?_) rfl (by kernel_rfl) (by kernel_rfl) (by kernel_rfl) (fun _ _ _ h => h) (Or.inl ⟨by rfl, ?_⟩) hHeld ?_
  rotate_left
  · intro w hSw; (try dsimp only at hSw); go_simp; try with_reducible rfl
  try simp only [Act.put, List.setIfInBounds_toArray, List.set_cons_zero, List.set_cons_succ]
  refine wpAnyH_take (i := 14) (oi := ⟨some 118, _, _, _, _, _⟩) (v := ?_) rfl (by kernel_rfl) (by kernel_rfl) (by kernel_rfl) (fun _ _ _ h => h) (Or.inl ⟨by rfl, ?_⟩) hHeld ?_
  rotate_left
  · intro w hSw; (try dsimp only at hSw); go_simp; try with_reducible rfl
  try simp only [Act.put, List.setIfInBounds_toArray, List.set_cons_zero, List.set_cons_succ]
  refine wpAnyH_take (i := 15) (oi := ⟨some 119, _, _, _, _, _⟩) (v := ?_) rfl (by kernel_rfl) (by kernel_rfl) (by kernel_rfl) (fun _ _ _ h => h) (Or.inl ⟨by rfl, ?_⟩) hHeld ?_
  rotate_left
  · intro w hSw; (try dsimp only at hSw); go_simp; try with_reducible rfl
  try simp only [Act.put, List.setIfInBounds_toArray, List.set_cons_zero, List.set_cons_succ]
  refine wpAnyH_ready (rs := [4, 11]) (by kernel_rfl) (by simp) (AllReadyH.cons (o := ⟨some 108, _, _, _, _, _⟩) rfl (fun K hK => ?_) (AllReadyH.cons (o := ⟨some 115, _, _, _, _, _⟩) rfl (fun K hK => ?_) AllReadyH.nil))
  · go_simp
    refine hK.out _ _ (⟨w0, g1⟩) (fun hHeld => ?_)
    clear hK K
    try simp only [Act.put, List.setIfInBounds_toArray, List.set_cons_zero, List.set_cons_succ]
    refine wpAnyH_ready (rs := [11]) (by kernel_rfl) (by simp) (AllReadyH.cons (o := ⟨some 115, _, _, _, _, _⟩) rfl (fun K hK => ?_) AllReadyH.nil)
    go_simp
    refine (p_read_at (w := W1.drewN 1) (F := F) (n := N) (s := S.s.l false) (HP.out.drewN 1) true 1 rfl p1 ((S.s.l false).x true) ((S.s.l false).e true) rfl rfl).mono ?_; rw [HK.out]; rintro e3 w3 ⟨sp3, sc3, rfl, hown3, hp3, hk3⟩; obtain ⟨H3, hW3, hkk3, hss3⟩ := HF.out w3 F _ (HPT.out hp3) ⟨hk3.os, hk3.tape, hk3.output, hk3.size, hk3.block⟩ (fun _ h => .inl h); have hC3 := (hk3.block C (Array.getElem?_eq_some_iff.1 HBOX.out).1 hCF).trans HBOX.out; have c1 : w3.cell? ⟨C, 1, none⟩ = some (.int .i64 p1) := cell_at hC3 1; have c0 : w3.cell? ⟨Wd, 1, none⟩ = some (.pointer (some ⟨P, 0, none⟩)) := (by rw [hW3.cells 1]; exact (H1.out.cells 1).symm.trans w0); have x3 : w3.cell? ⟨Wd, 6, none⟩ = some (.string (strOfNums (S.rd true))) := hW3.cells 6; have xf : w3.frozen? ⟨Wd, 6, none⟩ = false := hW3.frozen 6; have hcv := conv_own hown3; have FIN : Hid (Did W1 Wd R ln N H (readdS S false k) false (.returned (.bool false)) (w3.setCell ⟨Wd, 6, none⟩ (.string (strOfNums (S.rd true) ++ strOfNums (((S.s.l false).x true).take k))))) := ⟨rfl, H3, hW3.readd true (((S.s.l false).x true).take k), hkk3.trans (setW_keeps hW3) hss3, hss3⟩; have y0 : (w3.setCell ⟨Wd, 6, none⟩ (.string (strOfNums (S.rd true) ++ strOfNums (((S.s.l false).x true).take k)))).cell? ⟨Wd, 1, none⟩ = some (.pointer (some ⟨P, 0, none⟩)) := ((hW3.readd true (((S.s.l false).x true).take k)).cells 1).trans ((H1.out.cells 1).symm.trans w0); have y1 : (w3.setCell ⟨Wd, 6, none⟩ (.string (strOfNums (S.rd true) ++ strOfNums (((S.s.l false).x true).take k)))).cell? ⟨C, 1, none⟩ = some (.int .i64 p1) := (cell_at ((heap_setCell_other _ _ _ _ (fun e => hCW e)).trans hC3) 1); clear hown3 hp3 hk3 hC3 hW3 hkk3 hss3
    refine hK.out _ _ (⟨c0, c1⟩) (fun hHeld => ?_)
    clear hK K
    try simp only [Act.put, List.setIfInBounds_toArray, List.set_cons_zero, List.set_cons_succ]
    refine wpAnyH_ready (rs := [12]) (by kernel_rfl) (by simp) (AllReadyH.cons (o := ⟨some 116, _, _, _, _, _⟩) rfl (fun K hK => ?_) AllReadyH.nil)
    go_simp
    refine hK.out _ _ (⟨c0, c1⟩) (fun hHeld => ?_)
    clear hK K
    try simp only [Act.put, List.setIfInBounds_toArray, List.set_cons_zero, List.set_cons_succ]
    refine wpAnyH_take (i := 13) (oi := ⟨some 117, _, _, _, _, _⟩) (v := .string (strOfNums (S.rd true) ++ strOfNums (((S.s.l false).x true).take k))) rfl (by kernel_rfl) (by kernel_rfl) (by kernel_rfl) (fun _ _ _ h => h) (Or.inl ⟨by rfl, ?_⟩) hHeld ?_
    · intro w hSw; go_simp; omega
    try simp only [Act.put, List.setIfInBounds_toArray, List.set_cons_zero, List.set_cons_succ]
    refine wpAnyH_take (i := 16) (oi := ⟨some 120, _, _, _, _, _⟩) (v := ?_) rfl (by kernel_rfl) (by kernel_rfl) (by kernel_rfl) (fun _ _ _ h => h) (Or.inl ⟨by rfl, ?_⟩) hHeld ?_
    rotate_left
    · intro w hSw; (try dsimp only at hSw); go_simp; try with_reducible rfl
    try simp only [Act.put, List.setIfInBounds_toArray, List.set_cons_zero, List.set_cons_succ]
    refine wpAnyH_ready (rs := [17]) (by kernel_rfl) (by simp) (AllReadyH.cons (o := ⟨none, _, _, _, _, _⟩) rfl (fun K hK => ?_) AllReadyH.nil)
    go_simp
    refine hK.out _ _ (⟨y0, y1⟩) (fun hHeld => ?_)
    clear hK K
    try simp only [Act.put, List.setIfInBounds_toArray, List.set_cons_zero, List.set_cons_succ]
    refine wpAnyH_done (by kernel_rfl) ?_ _
    refine NoPanic.normal ?_
    go_wp2_with fail
    go_ret
    exact hFB.out FIN.out
  · go_simp
    refine (p_read_at (w := W1.drewN 1) (F := F) (n := N) (s := S.s.l false) (HP.out.drewN 1) true 1 rfl p1 ((S.s.l false).x true) ((S.s.l false).e true) rfl rfl).mono ?_; rw [HK.out]; rintro e3 w3 ⟨sp3, sc3, rfl, hown3, hp3, hk3⟩; obtain ⟨H3, hW3, hkk3, hss3⟩ := HF.out w3 F _ (HPT.out hp3) ⟨hk3.os, hk3.tape, hk3.output, hk3.size, hk3.block⟩ (fun _ h => .inl h); have hC3 := (hk3.block C (Array.getElem?_eq_some_iff.1 HBOX.out).1 hCF).trans HBOX.out; have c1 : w3.cell? ⟨C, 1, none⟩ = some (.int .i64 p1) := cell_at hC3 1; have c0 : w3.cell? ⟨Wd, 1, none⟩ = some (.pointer (some ⟨P, 0, none⟩)) := (by rw [hW3.cells 1]; exact (H1.out.cells 1).symm.trans w0); have x3 : w3.cell? ⟨Wd, 6, none⟩ = some (.string (strOfNums (S.rd true))) := hW3.cells 6; have xf : w3.frozen? ⟨Wd, 6, none⟩ = false := hW3.frozen 6; have hcv := conv_own hown3; have FIN : Hid (Did W1 Wd R ln N H (readdS S false k) false (.returned (.bool false)) (w3.setCell ⟨Wd, 6, none⟩ (.string (strOfNums (S.rd true) ++ strOfNums (((S.s.l false).x true).take k))))) := ⟨rfl, H3, hW3.readd true (((S.s.l false).x true).take k), hkk3.trans (setW_keeps hW3) hss3, hss3⟩; have y0 : (w3.setCell ⟨Wd, 6, none⟩ (.string (strOfNums (S.rd true) ++ strOfNums (((S.s.l false).x true).take k)))).cell? ⟨Wd, 1, none⟩ = some (.pointer (some ⟨P, 0, none⟩)) := ((hW3.readd true (((S.s.l false).x true).take k)).cells 1).trans ((H1.out.cells 1).symm.trans w0); have y1 : (w3.setCell ⟨Wd, 6, none⟩ (.string (strOfNums (S.rd true) ++ strOfNums (((S.s.l false).x true).take k)))).cell? ⟨C, 1, none⟩ = some (.int .i64 p1) := (cell_at ((heap_setCell_other _ _ _ _ (fun e => hCW e)).trans hC3) 1); clear hown3 hp3 hk3 hC3 hW3 hkk3 hss3
    refine hK.out _ _ (⟨c0, c1⟩) (fun hHeld => ?_)
    clear hK K
    try simp only [Act.put, List.setIfInBounds_toArray, List.set_cons_zero, List.set_cons_succ]
    refine wpAnyH_ready (rs := [4, 12]) (by kernel_rfl) (by simp) (AllReadyH.cons (o := ⟨some 108, _, _, _, _, _⟩) rfl (fun K hK => ?_) (AllReadyH.cons (o := ⟨some 116, _, _, _, _, _⟩) rfl (fun K hK => ?_) AllReadyH.nil))
    · go_simp
      refine hK.out _ _ (⟨c0, c1⟩) (fun hHeld => ?_)
      clear hK K
      try simp only [Act.put, List.setIfInBounds_toArray, List.set_cons_zero, List.set_cons_succ]
      refine wpAnyH_ready (rs := [12]) (by kernel_rfl) (by simp) (AllReadyH.cons (o := ⟨some 116, _, _, _, _, _⟩) rfl (fun K hK => ?_) AllReadyH.nil)
      go_simp
      refine hK.out _ _ (⟨c0, c1⟩) (fun hHeld => ?_)
      clear hK K
      try simp only [Act.put, List.setIfInBounds_toArray, List.set_cons_zero, List.set_cons_succ]
      refine wpAnyH_take (i := 13) (oi := ⟨some 117, _, _, _, _, _⟩) (v := .string (strOfNums (S.rd true) ++ strOfNums (((S.s.l false).x true).take k))) rfl (by kernel_rfl) (by kernel_rfl) (by kernel_rfl) (fun _ _ _ h => h) (Or.inl ⟨by rfl, ?_⟩) hHeld ?_
      · intro w hSw; go_simp; omega
      try simp only [Act.put, List.setIfInBounds_toArray, List.set_cons_zero, List.set_cons_succ]
      refine wpAnyH_take (i := 16) (oi := ⟨some 120, _, _, _, _, _⟩) (v := ?_) rfl (by kernel_rfl) (by kernel_rfl) (by kernel_rfl) (fun _ _ _ h => h) (Or.inl ⟨by rfl, ?_⟩) hHeld ?_
      rotate_left
      · intro w hSw; (try dsimp only at hSw); go_simp; try with_reducible rfl
      try simp only [Act.put, List.setIfInBounds_toArray, List.set_cons_zero, List.set_cons_succ]
      refine wpAnyH_ready (rs := [17]) (by kernel_rfl) (by simp) (AllReadyH.cons (o := ⟨none, _, _, _, _, _⟩) rfl (fun K hK => ?_) AllReadyH.nil)
      go_simp
      refine hK.out _ _ (⟨y0, y1⟩) (fun hHeld => ?_)
      clear hK K
      try simp only [Act.put, List.setIfInBounds_toArray, List.set_cons_zero, List.set_cons_succ]
      refine wpAnyH_done (by kernel_rfl) ?_ _
      refine NoPanic.normal ?_
      go_wp2_with fail
      go_ret
      exact hFB.out FIN.out
    · go_simp
      refine hK.out _ _ (⟨c0, c1⟩) (fun hHeld => ?_)
      clear hK K
      try simp only [Act.put, List.setIfInBounds_toArray, List.set_cons_zero, List.set_cons_succ]
      refine wpAnyH_ready (rs := [4]) (by kernel_rfl) (by simp) (AllReadyH.cons (o := ⟨some 108, _, _, _, _, _⟩) rfl (fun K hK => ?_) AllReadyH.nil)
      go_simp
      refine hK.out _ _ (⟨c0, c1⟩) (fun hHeld => ?_)
      clear hK K
      try simp only [Act.put, List.setIfInBounds_toArray, List.set_cons_zero, List.set_cons_succ]
      refine wpAnyH_take (i := 13) (oi := ⟨some 117, _, _, _, _, _⟩) (v := .string (strOfNums (S.rd true) ++ strOfNums (((S.s.l false).x true).take k))) rfl (by kernel_rfl) (by kernel_rfl) (by kernel_rfl) (fun _ _ _ h => h) (Or.inl ⟨by rfl, ?_⟩) hHeld ?_
      · intro w hSw; go_simp; omega
      try simp only [Act.put, List.setIfInBounds_toArray, List.set_cons_zero, List.set_cons_succ]
      refine wpAnyH_take (i := 16) (oi := ⟨some 120, _, _, _, _, _⟩) (v := ?_) rfl (by kernel_rfl) (by kernel_rfl) (by kernel_rfl) (fun _ _ _ h => h) (Or.inl ⟨by rfl, ?_⟩) hHeld ?_
      rotate_left
      · intro w hSw; (try dsimp only at hSw); go_simp; try with_reducible rfl
      try simp only [Act.put, List.setIfInBounds_toArray, List.set_cons_zero, List.set_cons_succ]
      refine wpAnyH_ready (rs := [17]) (by kernel_rfl) (by simp) (AllReadyH.cons (o := ⟨none, _, _, _, _, _⟩) rfl (fun K hK => ?_) AllReadyH.nil)
      go_simp
      refine hK.out _ _ (⟨y0, y1⟩) (fun hHeld => ?_)
      clear hK K
      try simp only [Act.put, List.setIfInBounds_toArray, List.set_cons_zero, List.set_cons_succ]
      refine wpAnyH_done (by kernel_rfl) ?_ _
      refine NoPanic.normal ?_
      go_wp2_with fail
      go_ret
      exact hFB.out FIN.out


set_option maxRecDepth 100000 in
set_option maxHeartbeats 4000000 in
theorem do_hang_child (h : LW w Wd R ln N S H) (a : Option Addr) (n c : Nat) (l : List Int) (Qa : List Nat) (hy : Slc w Qa (.slice a n c) l) (hqa : ∀ k, k ∈ Qa → k ∉ H) (hn : n ≤ 100) (p1 p2 : Int) (hwr : ∀ d, (S.wr d).length ≤ 100000) (hrd : ∀ d, (S.rd d).length ≤ 100000) :
    Calls Tryd.prog 31 #[.pointer (some ⟨Wd, 0, none⟩), .agg #[.int .i64 9, .int .i64 p1, .int .i64 p2, .slice a n c]] w (Did w Wd R ln N H (hangS S false) false) := by
  obtain ⟨C, hC⟩ : ∃ C, w.heap.size = C := ⟨_, rfl⟩
  obtain ⟨W1, hW1⟩ : ∃ W1, w.alloc (.cells #[.int .i64 9, .int .i64 p1, .int .i64 p2, .slice a n c] 59) = W1 := ⟨_, rfl⟩
  have hb1 : Below w.heap.size w W1 := by rw [← hW1]; exact (Below.refl _ _).alloc (Nat.le_refl _) _
  have hbox : W1.heap[C]? = some (.cells #[.int .i64 9, .int .i64 p1, .int .i64 p2, .slice a n c] 59 (0, 0)) := by rw [← hW1, ← hC]; exact heap_alloc_new w _
  have h1 := h.below hb1
  have hCH : C ∉ H := fun hm => by have := h.lt C hm; omega
  have hy1 := hy.below hb1
  have hFB : Hid (∀ {S' : LS} {r : Bool} {e : Ending} {w' : World}, Did W1 Wd R ln N H S' r e w' → Did w Wd R ln N H S' r e w') := fun h => did_box hb1 h
  have g0 : W1.cell? ⟨C, 0, none⟩ = some (.int .i64 9) := cell_at hbox 0
  have g1 : W1.cell? ⟨C, 1, none⟩ = some (.int .i64 p1) := cell_at hbox 1
  have g2 : W1.cell? ⟨C, 2, none⟩ = some (.int .i64 p2) := cell_at hbox 2
  have g3 : W1.cell? ⟨C, 3, none⟩ = some (.slice a n c) := cell_at hbox 3
  have HBOX := Lib.hid hbox
  have HY := Lib.hid hy1
  have H1 := Lib.hid h1
  have HWR : Hid _ := hwr
  have HRD : Hid _ := hrd
  have HQA : Hid _ := hqa
  have hyl : l.length = n := by obtain ⟨a', n', c', e, _, _, h3, _⟩ := hy; cases e; exact h3
  have hnc : n ≤ c := by obtain ⟨a', n', c', e, h3, _⟩ := hy; cases e; exact h3
  have HYL := Lib.hid hyl
  obtain ⟨F, hp, hFH, hWF, hfin⟩ := h1.line false
  have HF : Hid _ := hfin
  have hCF : C ∉ F := fun hm => hCH (hFH C hm)
  obtain ⟨P, hP⟩ : ∃ P, ln false = P := ⟨_, rfl⟩
  rw [hP] at hp
  have HPT : Hid (∀ {w3 : World} {F' : List Nat} {l' : Line}, IsP w3 P F' N l' → IsP w3 (ln false) F' N l') := fun h => by rw [hP]; exact h
  have w0 : W1.cell? ⟨Wd, 1, none⟩ = some (.pointer (some ⟨P, 0, none⟩)) := by rw [← hP]; exact h1.cells 1
  have HP := Lib.hid hp

  clear h h1 hy hy1 hqa hp hfin hP hbox hyl hb1 hwr hrd
  go_enter Tryd.func31, Tryd.ntmps31
  go_wp2_with fail
  refine (p_hang (w := W1) (F := F) (n := N) (s := S.s.l false) HP.out false 1 rfl).mono ?_
  rintro e3 w3 ⟨rfl, hp3, hk3⟩
  obtain ⟨H3, hW3, hkk3, hss3⟩ := HF.out w3 F _ (HPT.out hp3) hk3 (fun _ h => .inl h)
  have FIN : Hid (Did W1 Wd R ln N H (hangS S false) false (.returned (.bool false)) w3) := ⟨rfl, H3, hW3, hkk3, hss3⟩
  clear hp3 hk3 hW3 hkk3 hss3
  go_wp2_with fail
  go_ret
  exact hFB.out FIN.out


set_option maxRecDepth 100000 in
set_option maxHeartbeats 4000000 in
theorem do_step (h : LW w Wd R ln N S H) (a : Option Addr) (n c : Nat) (l : List Int) (Qa : List Nat) (hy : Slc w Qa (.slice a n c) l) (hqa : ∀ k, k ∈ Qa → k ∉ H) (hn : n ≤ 100) (kd p1 p2 : Int) (hkd : kd < 4 ∨ 9 < kd) (hwr : ∀ d, (S.wr d).length ≤ 100000) (hrd : ∀ d, (S.rd d).length ≤ 100000) :
    Calls Tryd.prog 31 #[.pointer (some ⟨Wd, 0, none⟩), .agg #[.int .i64 kd, .int .i64 p1, .int .i64 p2, .slice a n c]] w (Did w Wd R ln N H { S with s := (stepS N S.s kd p1 p2).1 } (stepS N S.s kd p1 p2).2) := by
  obtain ⟨C, hC⟩ : ∃ C, w.heap.size = C := ⟨_, rfl⟩
  obtain ⟨W1, hW1⟩ : ∃ W1, w.alloc (.cells #[.int .i64 kd, .int .i64 p1, .int .i64 p2, .slice a n c] 59) = W1 := ⟨_, rfl⟩
  have hb1 : Below w.heap.size w W1 := by rw [← hW1]; exact (Below.refl _ _).alloc (Nat.le_refl _) _
  have hbox : W1.heap[C]? = some (.cells #[.int .i64 kd, .int .i64 p1, .int .i64 p2, .slice a n c] 59 (0, 0)) := by rw [← hW1, ← hC]; exact heap_alloc_new w _
  have h1 := h.below hb1
  have hCH : C ∉ H := fun hm => by have := h.lt C hm; omega
  have hy1 := hy.below hb1
  have hFB : Hid (∀ {S' : LS} {r : Bool} {e : Ending} {w' : World}, Did W1 Wd R ln N H S' r e w' → Did w Wd R ln N H S' r e w') := fun h => did_box hb1 h
  have g0 : W1.cell? ⟨C, 0, none⟩ = some (.int .i64 kd) := cell_at hbox 0
  have g1 : W1.cell? ⟨C, 1, none⟩ = some (.int .i64 p1) := cell_at hbox 1
  have g2 : W1.cell? ⟨C, 2, none⟩ = some (.int .i64 p2) := cell_at hbox 2
  have g3 : W1.cell? ⟨C, 3, none⟩ = some (.slice a n c) := cell_at hbox 3
  have HBOX := Lib.hid hbox
  have HY := Lib.hid hy1
  have H1 := Lib.hid h1
  have HWR : Hid _ := hwr
  have HRD : Hid _ := hrd
  have HQA : Hid _ := hqa
  have hyl : l.length = n := by obtain ⟨a', n', c', e, _, _, h3, _⟩ := hy; cases e; exact h3
  have hnc : n ≤ c := by obtain ⟨a', n', c', e, h3, _⟩ := hy; cases e; exact h3
  have HYL := Lib.hid hyl

  obtain ⟨H0, hr, hsub, hWn, hfin⟩ := h1.rel
  have HF : Hid _ := hfin
  have HR := Lib.hid (hr.below (below_drewN (Below.refl _ _) 1))
  have hCH0 : C ∉ H0 := fun hm => hCH (hsub C hm)
  have w0 : W1.cell? ⟨Wd, 2, none⟩ = some (.pointer (some ⟨R, 0, none⟩)) := h1.cells 2
  obtain ⟨T, hT⟩ : ∃ T, stepS N S.s kd p1 p2 = T := ⟨_, rfl⟩
  have HST := Lib.hid (relay_step (hr.below (below_drewN (Below.refl _ _) 1)) kd p1 p2)
  rw [hT] at HST ⊢
  have z4 : (kd == 4) = false := by simp; omega
  have z5 : (kd == 5) = false := by simp; omega
  have z6 : (kd == 6) = false := by simp; omega
  have z7 : (kd == 7) = false := by simp; omega
  have z8 : (kd == 8) = false := by simp; omega
  have z9 : (kd == 9) = false := by simp; omega
  clear h h1 hy hy1 hqa hr hfin hbox hyl hb1 hwr hrd hT hkd
  go_enter Tryd.func31, Tryd.ntmps31
  go_upto_region 2 with fail

  refine wp_region_noPanic ?_
  refine wp_region_held_drew (S := fun w' => w'.cell? ⟨Wd, 2, none⟩ = some (.pointer (some ⟨R, 0, none⟩)) ∧ w'.cell? ⟨C, 0, none⟩ = some (.int .i64 kd) ∧ w'.cell? ⟨C, 1, none⟩ = some (.int .i64 p1) ∧ w'.cell? ⟨C, 2, none⟩ = some (.int .i64 p2)) (by kernel_rfl) (⟨w0, g0, g1, g2⟩) (fun hHeld => ?_)
  refine wpAnyH_take (i := 0) (oi := ⟨some 9, _, _, _, _, _⟩) (v := ?_) rfl (by kernel_rfl) (by kernel_rfl) (by kernel_rfl) (fun _ _ _ h => h) (Or.inl ⟨by rfl, ?_⟩) hHeld ?_
  rotate_left
  · intro w hSw; (try dsimp only at hSw); go_simp; try with_reducible rfl
  try simp only [Act.put, List.setIfInBounds_toArray, List.set_cons_zero, List.set_cons_succ]
  refine wpAnyH_take (i := 1) (oi := ⟨some 10, _, _, _, _, _⟩) (v := ?_) rfl (by kernel_rfl) (by kernel_rfl) (by kernel_rfl) (fun _ _ _ h => h) (Or.inl ⟨by rfl, ?_⟩) hHeld ?_
  rotate_left
  · intro w hSw; (try dsimp only at hSw); go_simp; try with_reducible rfl
  try simp only [Act.put, List.setIfInBounds_toArray, List.set_cons_zero, List.set_cons_succ]
  refine wpAnyH_take (i := 2) (oi := ⟨some 11, _, _, _, _, _⟩) (v := ?_) rfl (by kernel_rfl) (by kernel_rfl) (by kernel_rfl) (fun _ _ _ h => h) (Or.inl ⟨by rfl, ?_⟩) hHeld ?_
  rotate_left
  · intro w hSw; (try dsimp only at hSw); go_simp; try with_reducible rfl
  try simp only [Act.put, List.setIfInBounds_toArray, List.set_cons_zero, List.set_cons_succ]
  refine wpAnyH_take (i := 3) (oi := ⟨some 12, _, _, _, _, _⟩) (v := ?_) rfl (by kernel_rfl) (by kernel_rfl) (by kernel_rfl) (fun _ _ _ h => h) (Or.inl ⟨by rfl, ?_⟩) hHeld ?_
  rotate_left
  · intro w hSw; (try dsimp only at hSw); go_simp; try with_reducible rfl
  try simp only [Act.put, List.setIfInBounds_toArray, List.set_cons_zero, List.set_cons_succ]
  refine wpAnyH_take (i := 4) (oi := ⟨some 13, _, _, _, _, _⟩) (v := ?_) rfl (by kernel_rfl) (by kernel_rfl) (by kernel_rfl) (fun _ _ _ h => h) (Or.inl ⟨by rfl, ?_⟩) hHeld ?_
  rotate_left
  · intro w hSw; (try dsimp only at hSw); go_simp; try with_reducible rfl
  try simp only [Act.put, List.setIfInBounds_toArray, List.set_cons_zero, List.set_cons_succ]
  refine wpAnyH_take (i := 5) (oi := ⟨some 14, _, _, _, _, _⟩) (v := ?_) rfl (by kernel_rfl) (by kernel_rfl) (by kernel_rfl) (fun _ _ _ h => h) (Or.inl ⟨by rfl, ?_⟩) hHeld ?_
  rotate_left
  · intro w hSw; (try dsimp only at hSw); go_simp; try with_reducible rfl
  try simp only [Act.put, List.setIfInBounds_toArray, List.set_cons_zero, List.set_cons_succ]
  refine wpAnyH_take (i := 6) (oi := ⟨some 15, _, _, _, _, _⟩) (v := ?_) rfl (by kernel_rfl) (by kernel_rfl) (by kernel_rfl) (fun _ _ _ h => h) (Or.inl ⟨by rfl, ?_⟩) hHeld ?_
  rotate_left
  · intro w hSw; (try dsimp only at hSw); go_simp; try with_reducible rfl
  try simp only [Act.put, List.setIfInBounds_toArray, List.set_cons_zero, List.set_cons_succ]
  refine wpAnyH_take (i := 7) (oi := ⟨some 16, _, _, _, _, _⟩) (v := ?_) rfl (by kernel_rfl) (by kernel_rfl) (by kernel_rfl) (fun _ _ _ h => h) (Or.inl ⟨by rfl, ?_⟩) hHeld ?_
  rotate_left
  · intro w hSw; (try dsimp only at hSw); go_simp; try with_reducible rfl
  try simp only [Act.put, List.setIfInBounds_toArray, List.set_cons_zero, List.set_cons_succ]
  refine wpAnyH_take (i := 8) (oi := ⟨some 17, _, _, _, _, _⟩) (v := ?_) rfl (by kernel_rfl) (by kernel_rfl) (by kernel_rfl) (fun _ _ _ h => h) (Or.inl ⟨by rfl, ?_⟩) hHeld ?_
  rotate_left
  · intro w hSw; (try dsimp only at hSw); go_simp; try with_reducible rfl
  try simp only [Act.put, List.setIfInBounds_toArray, List.set_cons_zero, List.set_cons_succ]
  refine wpAnyH_take (i := 9) (oi := ⟨some 18, _, _, _, _, _⟩) (v := ?_) rfl (by kernel_rfl) (by kernel_rfl) (by kernel_rfl) (fun _ _ _ h => h) (Or.inl ⟨by rfl, ?_⟩) hHeld ?_
  rotate_left
  · intro w hSw; (try dsimp only at hSw); go_simp; try with_reducible rfl
  try simp only [Act.put, List.setIfInBounds_toArray, List.set_cons_zero, List.set_cons_succ]
  refine wpAnyH_ready (rs := [10]) (by kernel_rfl) (by simp) (AllReadyH.cons (o := ⟨some 19, _, _, _, _, _⟩) rfl (fun K hK => ?_) AllReadyH.nil)
  go_simp
  refine Calls.mono HST.out ?_; rintro e3 w3 ⟨rfl, H3, hr3, hk3, hs3⟩; obtain ⟨H4, hW3, hkk3, hss3⟩ := HF.out w3 H3 _ hr3 ⟨hk3.os, hk3.tape, hk3.output, hk3.size, hk3.block⟩ hs3; have hC3 := (hk3.block C (Array.getElem?_eq_some_iff.1 HBOX.out).1 hCH0).trans HBOX.out; have c0 : w3.cell? ⟨C, 0, none⟩ = some (.int .i64 kd) := cell_at hC3 0; have c1 : w3.cell? ⟨C, 1, none⟩ = some (.int .i64 p1) := cell_at hC3 1; have c2 : w3.cell? ⟨C, 2, none⟩ = some (.int .i64 p2) := cell_at hC3 2; have cw : w3.cell? ⟨Wd, 2, none⟩ = some (.pointer (some ⟨R, 0, none⟩)) := hW3.cells 2; have FIN : Hid (Did W1 Wd R ln N H { S with s := T.1 } T.2 (.returned (.bool T.2)) w3) := ⟨rfl, H4, hW3, hkk3, hss3⟩; clear hr3 hk3 hs3 hC3 hW3 hkk3 hss3
  refine hK.out _ _ (⟨cw, c0, c1, c2⟩) (fun hHeld => ?_)
  clear hK K
  try simp only [Act.put, List.setIfInBounds_toArray, List.set_cons_zero, List.set_cons_succ]
  refine wpAnyH_take (i := 11) (oi := ⟨some 4, _, _, _, _, _⟩) (v := ?_) rfl (by kernel_rfl) (by kernel_rfl) (by kernel_rfl) (fun _ _ _ h => h) (Or.inl ⟨by rfl, ?_⟩) hHeld ?_
  rotate_left
  · intro w hSw; (try dsimp only at hSw); go_simp; try with_reducible rfl
  try simp only [Act.put, List.setIfInBounds_toArray, List.set_cons_zero, List.set_cons_succ]
  refine wpAnyH_done (by kernel_rfl) ?_ _
  refine NoPanic.normal ?_
  go_wp2_with fail
  go_ret
  exact hFB.out FIN.out
end

end Go.Proofs.YthpdphbppapkhaaDoor
