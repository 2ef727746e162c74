/-
  What happens in the statements' world, call by call, and the walk of the document's example for the relay. Condition: what is written takes at most 100 bytes; what was written and read so far takes at most 100000.
-/
import Derived.Test.YthpdphbppapkhaaDoorDo
namespace Go.Proofs.YthpdphbppapkhaaDoor
open Go.RowKit qb

section
variable {w : World} {Wd R : Nat} {ln : Bool → Nat} {N : Nat} {S : LS} {H : List Nat}

theorem lw_do (h : LW w Wd R ln N S H) (x : Act) (a : Option Addr) (n c : Nat) (Qa : List Nat) (hy : Slc w Qa (.slice a n c) x.l) (hqa : ∀ k, k ∈ Qa → k ∉ H) (hn : n ≤ 100) (hwr : ∀ d, (S.wr d).length ≤ 100000) (hrd : ∀ d, (S.rd d).length ≤ 100000) :
    Calls Tryd.prog 31 #[.pointer (some ⟨Wd, 0, none⟩), .agg #[.int .i64 x.kind, .int .i64 x.p1, .int .i64 x.p2, .slice a n c]] w (Did w Wd R ln N H (doS N S x).1 (doS N S x).2) := by
  obtain ⟨kind, p1, p2, l⟩ := x
  unfold doS
  split
  · next e => obtain rfl : kind = 4 := e; exact do_write_user h a n c l Qa hy hqa hn p1 p2 hwr hrd
  split
  · next e => obtain rfl : kind = 5 := e; exact do_read_user h a n c l Qa hy hqa hn p1 p2 hwr hrd
  split
  · next e => obtain rfl : kind = 6 := e; exact do_hang_user h a n c l Qa hy hqa hn p1 p2 hwr hrd
  split
  · next e => obtain rfl : kind = 7 := e; exact do_write_child h a n c l Qa hy hqa hn p1 p2 hwr hrd
  split
  · next e => obtain rfl : kind = 8 := e; exact do_read_child h a n c l Qa hy hqa hn p1 p2 hwr hrd
  split
  · next e => obtain rfl : kind = 9 := e; exact do_hang_child h a n c l Qa hy hqa hn p1 p2 hwr hrd
  · next e1 e2 e3 e4 e5 e6 => exact do_step h a n c l Qa hy hqa hn kind p1 p2 (by dsimp only at *; omega) hwr hrd

/-- What a call on one of them leaves. -/
def Went (w : World) (Wd R : Nat) (ln : Bool → Nat) (N : Nat) (H : List Nat) (S' : LS) (w' : World) : Prop :=
  ∃ H', LW w' Wd R ln N S' H' ∧ Keeps H w w' ∧ ∀ k, k ∈ H' → k ∈ H ∨ w.heap.size ≤ k

def lined (S : LS) (u : Bool) (l' : Line) : LS := { S with s := { S.s with l := upd S.s.l u l' } }
def ran (S : LS) (s' : RS) : LS := { S with s := s' }

theorem lw_step (h : LW w Wd R ln N S H) (kind n t : Int) :
    Calls Tryd.prog 38 #[.pointer (some ⟨R, 0, none⟩), .int .i64 kind, .int .i64 n, .int .i64 t] w fun e w' => e = .returned (.bool (stepS N S.s kind n t).2) ∧ Went w Wd R ln N H (ran S (stepS N S.s kind n t).1) w' := by
  obtain ⟨H0, hr, hsub, hWn, hfin⟩ := h.rel
  refine (relay_step hr kind n t).mono ?_
  rintro e w3 ⟨rfl, H3, hr3, hk3, hs3⟩
  exact ⟨rfl, hfin w3 H3 _ hr3 hk3 hs3⟩

theorem lw_write (h : LW w Wd R ln N S H) (u : Bool) (side : Int) (hside : sd (!u) = side) (a : Option Addr) (n c : Nat) (ys : List Int) (Qa : List Nat) (hy : Slc w Qa (.slice a n c) ys) (hqa : ∀ k, k ∈ Qa → k ∉ H) (k : Nat) (hk : took n ((S.s.l u).x u).length N ((S.s.l u).e u) = k) :
    Calls Tryd.prog 16 #[.pointer (some ⟨ln u, 0, none⟩), .int .i64 side, .slice a n c] w fun e w' => e = .returned (.int .i64 k) ∧ Went w Wd R ln N H (lined S u ((S.s.l u).set u ((S.s.l u).x u ++ ys.take k) ((S.s.l u).e u))) w' := by
  obtain ⟨F, hp, hFH, hWF, hfin⟩ := h.line u
  refine (p_write hp u side hside a n c ys (hy.given (fun k h1 h2 => hqa k h1 (hFH k h2))) k hk).mono ?_
  rintro e w3 ⟨rfl, F3, hp3, hk3, hs3⟩
  exact ⟨rfl, hfin w3 F3 _ hp3 hk3 hs3⟩

theorem lw_read (h : LW w Wd R ln N S H) (u j : Bool) (side : Int) (hside : sd j = side) (arg : Int) (k : Nat) (hk : count arg ((S.s.l u).x j).length = k) :
    Calls Tryd.prog 17 #[.pointer (some ⟨ln u, 0, none⟩), .int .i64 side, .int .i64 arg] w fun e w' => ∃ sp sc, e = .returned (.slice sp k sc) ∧ w'.ownsRow w.heap.size 5 1 (.slice sp k sc) k ((((S.s.l u).x j).take k).map fun x => .int .u8 x) ∧
      Went w Wd R ln N H (lined S u ((S.s.l u).set j (((S.s.l u).x j).drop k) ((S.s.l u).e j))) w' := by
  obtain ⟨F, hp, hFH, hWF, hfin⟩ := h.line u
  refine (p_read hp j side hside arg k hk).mono ?_
  rintro e w3 ⟨sp, sc, rfl, hown, hp3, hk3⟩
  exact ⟨sp, sc, rfl, hown, hfin w3 F _ hp3 hk3 (fun _ h => .inl h)⟩

theorem lw_hang (h : LW w Wd R ln N S H) (u j : Bool) (side : Int) (hside : sd (!j) = side) :
    Calls Tryd.prog 18 #[.pointer (some ⟨ln u, 0, none⟩), .int .i64 side] w fun e w' => e = .returned (.tuple #[]) ∧ Went w Wd R ln N H (lined S u ((S.s.l u).set j ((S.s.l u).x j) true)) w' := by
  obtain ⟨F, hp, hFH, hWF, hfin⟩ := h.line u
  refine (p_hang hp j side hside).mono ?_
  rintro e w3 ⟨rfl, hp3, hk3⟩
  exact ⟨rfl, hfin w3 F _ hp3 hk3 (fun _ h => .inl h)⟩

theorem lw_over (h : LW w Wd R ln N S H) (u j : Bool) (side : Int) (hside : sd j = side) (o : Bool) (ho : ((S.s.l u).e j && decide (((S.s.l u).x j).length = 0)) = o) :
    Calls Tryd.prog 19 #[.pointer (some ⟨ln u, 0, none⟩), .int .i64 side] w fun e w' => e = .returned (.bool o) ∧ w = w' := by
  obtain ⟨F, hp, _⟩ := h.line u
  exact p_over hp j side hside o ho

theorem lw_waits (h : LW w Wd R ln N S H) (u j : Bool) (side : Int) (hside : sd j = side) (m : Nat) (hm : ((S.s.l u).x j).length = m) :
    Calls Tryd.prog 21 #[.pointer (some ⟨ln u, 0, none⟩), .int .i64 side] w fun e w' => e = .returned (.int .i64 m) ∧ w = w' := by
  obtain ⟨F, hp, _⟩ := h.line u
  exact p_waits hp j side hside m hm

theorem lw_rwaits (h : LW w Wd R ln N S H) (d : Bool) (side : Int) (hs : sd d = side) (k : Nat) (hk : (S.s.w d).length = k) :
    Calls Tryd.prog 37 #[.pointer (some ⟨R, 0, none⟩), .int .i64 side] w fun e w' => e = .returned (.int .i64 k) ∧ w = w' := by
  obtain ⟨H0, hr, _⟩ := h.rel
  exact relay_waits hr d side hs k hk

theorem lw_done (h : LW w Wd R ln N S H) (o : Bool) (ho : (S.s.o false && decide ((S.s.w false).length = 0)) = o) :
    Calls Tryd.prog 39 #[.pointer (some ⟨R, 0, none⟩)] w fun e w' => e = .returned (.bool o) ∧ w = w' := by
  obtain ⟨H0, hr, _⟩ := h.rel
  exact relay_done hr o ho

theorem lw_transcript (h : LW w Wd R ln N S H) (hdl : ∀ e, e ∈ S.s.evs → e.data.length ≤ 500000) :
    Calls Tryd.prog 32 #[.pointer (some ⟨R, 0, none⟩)] w fun e w' => ∃ vT, e = .returned (.agg #[vT, .bool (S.s.o false)]) ∧ Told w' w.heap.size vT S.s.evs ∧ LW w' Wd R ln N S H ∧ Below w.heap.size w w' := by
  obtain ⟨H0, hr, _⟩ := h.rel
  refine (transcript_any hr hdl).mono ?_
  rintro e w' ⟨vT, rfl, ht, hb⟩
  exact ⟨vT, rfl, ht, h.below hb, hb⟩
end

/-- One of the notes that were told. -/
theorem Told.get {w : World} {B : Nat} {v : Value} {evs : List Ev} (h : Told w B v evs) :
    ∃ sp sc Q, v = .slice sp evs.length sc ∧ evs.length ≤ sc ∧ sc ≤ maxLen ∧ (∀ k, k ∈ Q → B ≤ k) ∧
      ∀ i e, evs[i]? = some e → ∃ g x, sp = some ⟨g, 0, none⟩ ∧ B ≤ g ∧ g < w.heap.size ∧ g ∉ Q ∧ w.cell? ⟨g, i * 3, none⟩ = some (.int .i64 e.dir) ∧ w.cell? ⟨g, i * 3 + 1, none⟩ = some (.int .i64 e.time) ∧ w.cell? ⟨g, i * 3 + 2, none⟩ = some x ∧ Slc w Q x e.data ∧ w.heap[g]?.isSome = true := by
  obtain ⟨evl, Q, hrow, hq, hd, hQ⟩ := h
  have hvl : evl.length = evs.length := by rw [← hq]; simp
  rcases hrow.2 with ⟨rfl, e⟩ | ⟨g, cap, cur, rfl, hBg, hg, hnc, hcm, hcs, htk⟩
  · refine ⟨none, 0, Q, by rw [e], by omega, by simp [maxLen], fun k hk => (hQ k hk).1, fun i e' he => ?_⟩
    have := (List.getElem?_eq_some_iff.1 he).1
    omega
  · refine ⟨_, _, Q, rfl, hnc, hcm, fun k hk => (hQ k hk).1, fun i e' he => ?_⟩
    have hi := (List.getElem?_eq_some_iff.1 he).1
    obtain ⟨e0, e1, e2⟩ := evCells_get evl i (by omega)
    have hfst : (evl[i]'(by omega)).1 = e' := by
      have : (evl.map Prod.fst)[i]? = some e' := by rw [hq]; exact he
      rw [List.getElem?_map, List.getElem?_eq_getElem (show i < evl.length by omega)] at this
      simpa using this
    have cell : ∀ j u, (evCells evl)[j]? = some u → w.cell? ⟨g, j, none⟩ = some u := by
      intro j u hj
      have hc := hrow.cells (g := g) rfl j u hj
      have hadd : (⟨g, 0, none⟩ : Addr).add j = ⟨g, 0 + j, none⟩ := by unfold Addr.add; split <;> simp_all
      rw [hadd, Nat.zero_add] at hc
      exact hc
    rw [Nat.mul_comm 3 i, hfst] at e0 e1
    rw [Nat.mul_comm 3 i] at e2
    refine ⟨g, (evl[i]'(by omega)).2, rfl, hBg, (Array.getElem?_eq_some_iff.1 hg).1, fun hm => (hQ g hm).2.1 (by simp [Value.ownBlock]), cell _ _ e0, cell _ _ e1, cell _ _ e2, ?_, by rw [hg]; rfl⟩
    have := hd _ (List.getElem_mem (show i < evl.length by omega))
    rw [hfst] at this
    exact this

theorem Went.fresh {w w1 w' : World} {Wd R : Nat} {ln : Bool → Nat} {N : Nat} {H : List Nat} {S' : LS} {B : Nat} (h : Went w1 Wd R ln N H S' w') (hb : Below B w w1) (hB : B ≤ w1.heap.size) (hH : ∀ k, k ∈ H → B ≤ k) :
    ∃ H', LW w' Wd R ln N S' H' ∧ Below B w w' ∧ (∀ k, k ∈ H' → B ≤ k) ∧ B ≤ w'.heap.size := by
  obtain ⟨H', h1, h2, h3⟩ := h
  refine ⟨H', h1, h2.below hb hH hB, fun k hk => ?_, Nat.le_trans hB h2.size⟩
  rcases h3 k hk with h | h
  · exact hH k h
  · omega

theorem Slc.built (w : World) (ys : List Int) (k : Nat) (hn : ys.length = k) (hm : k ≤ maxLen) :
    Slc (w.alloc (.cells (ys.map fun x => Value.int .u8 x).toArray 5)) [w.heap.size] (.slice (some ⟨w.heap.size, 0, none⟩) k k) ys := by
  refine ⟨_, _, _, rfl, Nat.le_refl _, hm, hn, fun i hi => ⟨w.heap.size, 0, rfl, by simp, by simp, ?_⟩⟩
  rw [Nat.zero_add, World.cell?_alloc_new]
  simp [List.getElem?_eq_getElem (show i < ys.length by omega)]

theorem field63 (x : Value) (o : Bool) (w : World) : (Instr.field 63 (.agg #[x, .bool o]) 0).run Tryd.prog w = .ok x w := by kernel_rfl

def a1 : LS := lined ls0 true ((ls0.s.l true).set true [104, 105] false)
def a2 : LS := ran a1 (stepS 30 a1.s 0 1 5).1
def a3 : LS := ran a2 (stepS 30 a2.s 0 1 9).1
def a4 : LS := ran a3 (stepS 30 a3.s 2 9 0).1
def a5 : LS := lined a4 false ((a4.s.l false).set true [] false)
def a6 : LS := ran a5 (stepS 30 a5.s 0 9 3).1
theorem st2 : (stepS 30 a1.s 0 1 5).2 = true := by decide +kernel
theorem st3 : (stepS 30 a2.s 0 1 9).2 = false := by decide +kernel
theorem st4 : (stepS 30 a3.s 2 9 0).2 = true := by decide +kernel
theorem st6 : (stepS 30 a5.s 0 9 3).2 = true := by decide +kernel
theorem x4 : (a4.s.l false).x true = [104] := by decide +kernel
theorem e4 : (a4.s.l false).e true = false := by decide +kernel
theorem ev6 : a6.s.evs = [⟨1, 5, [104]⟩, ⟨1, 5, [105]⟩] := by rfl
theorem w6w : a6.s.w true = [105] := by decide +kernel

set_option maxRecDepth 100000 in
set_option maxHeartbeats 2000000 in
theorem alive7_any (w : World) (ho : Oth w) : Calls Tryd.prog 28 #[] w fun e w' => e = .returned (.bool true) ∧ Below w.heap.size w w' := by
  have HO := Lib.hid ho
  clear ho
  go_enter Tryd.func28, Tryd.ntmps28
  go_wp2_with fail
  refine (lw_new 29 (by constructor <;> omega) w HO.out).mono ?_
  rintro e w1 ⟨Wd, R, ln, N, H, rfl, hN, h, hb1, hH⟩
  obtain rfl : N = 30 := by omega
  obtain ⟨B, hB⟩ : ∃ B, w.heap.size = B := ⟨_, rfl⟩
  have g0 : w1.cell? ⟨Wd, 0, none⟩ = some (.pointer (some ⟨ln true, 0, none⟩)) := h.cells 0
  have hWd : B ≤ Wd := by rw [← hB]; exact hH Wd (by obtain ⟨H0, rfl, _⟩ := h; simp)
  obtain ⟨P, hP⟩ : ∃ P, ln true = P := ⟨_, rfl⟩
  rw [hP] at g0
  obtain ⟨w2, hw2⟩ : ∃ w2, w1.alloc (.cells (([104, 105] : List Int).map fun x => Value.int .u8 x).toArray 5) = w2 := ⟨_, rfl⟩
  have hb2 : Below w1.heap.size w1 w2 := by rw [← hw2]; exact (Below.refl _ _).alloc (Nat.le_refl _) _
  have h2 := h.below hb2
  have hy : Slc w2 [w1.heap.size] (.slice (some ⟨w1.heap.size, 0, none⟩) 2 2) [104, 105] := by rw [← hw2]; exact Slc.built w1 [104, 105] 2 rfl (by decide)
  have hq : ∀ k, k ∈ [w1.heap.size] → k ∉ H := fun k hk hm => by have := h.lt k hm; simp at hk; omega
  have HW := Lib.hid (lw_write h2 true 0 rfl _ 2 2 _ _ hy hq 2 rfl)
  rw [hP] at HW
  have HB : Hid _ := (hb1.trans (hb2.mono hb1.size))
  have HF : Hid (∀ k, k ∈ H → w.heap.size ≤ k) := hH
  have S2 : w.heap.size ≤ w2.heap.size := HB.out.size
  have HP := Lib.hid hP
  clear h hb1 hb2 h2 hy hq hH hP
  have hw2' : w1.alloc (.cells #[.int .u8 104, .int .u8 105] 5) = w2 := hw2
  go_wp2_with fail
  refine Calls.mono HW.out ?_
  rintro e w3 ⟨rfl, hw⟩
  obtain ⟨H3x, h3, b3, f3, z3⟩ := hw.fresh HB.out S2 HF.out
  have q0 : w3.cell? ⟨Wd, 0, none⟩ = some (.pointer (some ⟨P, 0, none⟩)) := (h3.cells 0).trans (by rw [← HP.out]; rfl)
  have q1 : w3.cell? ⟨Wd, 1, none⟩ = some (.pointer (some ⟨ln false, 0, none⟩)) := h3.cells 1
  have q2 : w3.cell? ⟨Wd, 2, none⟩ = some (.pointer (some ⟨R, 0, none⟩)) := h3.cells 2
  replace h3 : LW w3 Wd R ln 30 a1 H3x := h3
  have H3 := Lib.hid h3
  have B3 := Lib.hid b3
  have Z3 := Lib.hid z3
  have F3 : Hid _ := f3
  clear hw h3 b3 f3 z3 HW g0 hw2 hw2' S2 HB
  go_wp2_with fail
  refine Calls.mono (lw_step H3.out (0) (1) (5)) ?_
  rintro e w4 ⟨rfl, hw⟩
  obtain ⟨H4x, h4, b4, f4, z4⟩ := hw.fresh B3.out Z3.out F3.out
  clear q0 q1 q2
  have q0 : w4.cell? ⟨Wd, 0, none⟩ = some (.pointer (some ⟨P, 0, none⟩)) := (h4.cells 0).trans (by rw [← HP.out]; rfl)
  have q1 : w4.cell? ⟨Wd, 1, none⟩ = some (.pointer (some ⟨ln false, 0, none⟩)) := h4.cells 1
  have q2 : w4.cell? ⟨Wd, 2, none⟩ = some (.pointer (some ⟨R, 0, none⟩)) := h4.cells 2
  replace h4 : LW w4 Wd R ln 30 a2 H4x := h4
  have H4 := Lib.hid h4
  have B4 := Lib.hid b4
  have Z4 := Lib.hid z4
  have F4 : Hid _ := f4
  clear hw h4 b4 f4 z4
  rw [st2]
  go_wp2_with fail
  refine Calls.mono (lw_step H4.out (0) (1) (9)) ?_
  rintro e w5 ⟨rfl, hw⟩
  obtain ⟨H5x, h5, b5, f5, z5⟩ := hw.fresh B4.out Z4.out F4.out
  clear q0 q1 q2
  have q0 : w5.cell? ⟨Wd, 0, none⟩ = some (.pointer (some ⟨P, 0, none⟩)) := (h5.cells 0).trans (by rw [← HP.out]; rfl)
  have q1 : w5.cell? ⟨Wd, 1, none⟩ = some (.pointer (some ⟨ln false, 0, none⟩)) := h5.cells 1
  have q2 : w5.cell? ⟨Wd, 2, none⟩ = some (.pointer (some ⟨R, 0, none⟩)) := h5.cells 2
  replace h5 : LW w5 Wd R ln 30 a3 H5x := h5
  have H5 := Lib.hid h5
  have B5 := Lib.hid b5
  have Z5 := Lib.hid z5
  have F5 : Hid _ := f5
  clear hw h5 b5 f5 z5
  rw [st3]
  go_wp2_with fail
  refine Calls.mono (lw_step H5.out (2) (9) (0)) ?_
  rintro e w6 ⟨rfl, hw⟩
  obtain ⟨H6x, h6, b6, f6, z6⟩ := hw.fresh B5.out Z5.out F5.out
  clear q0 q1 q2
  have q0 : w6.cell? ⟨Wd, 0, none⟩ = some (.pointer (some ⟨P, 0, none⟩)) := (h6.cells 0).trans (by rw [← HP.out]; rfl)
  have q1 : w6.cell? ⟨Wd, 1, none⟩ = some (.pointer (some ⟨ln false, 0, none⟩)) := h6.cells 1
  have q2 : w6.cell? ⟨Wd, 2, none⟩ = some (.pointer (some ⟨R, 0, none⟩)) := h6.cells 2
  replace h6 : LW w6 Wd R ln 30 a4 H6x := h6
  have H6 := Lib.hid h6
  have B6 := Lib.hid b6
  have Z6 := Lib.hid z6
  have F6 : Hid _ := f6
  clear hw h6 b6 f6 z6
  rw [st4]
  go_wp2_with fail
  refine Calls.mono (lw_read H6.out false true 1 rfl 9 1 (by rw [x4]; rfl)) ?_
  rintro e w7 ⟨sp, sc, rfl, hown, hw⟩
  rw [x4, e4] at hw
  rw [x4] at hown
  obtain ⟨H7x, h7, b7, f7, z7⟩ := hw.fresh B6.out Z6.out F6.out
  have hcv : (convert 22 9 (.slice sp 1 sc)).run Tryd.prog w7 = .ok (.string ⟨#[104]⟩) w7 := conv_own hown
  clear q0 q1 q2
  have q0 : w7.cell? ⟨Wd, 0, none⟩ = some (.pointer (some ⟨P, 0, none⟩)) := (h7.cells 0).trans (by rw [← HP.out]; rfl)
  have q1 : w7.cell? ⟨Wd, 1, none⟩ = some (.pointer (some ⟨ln false, 0, none⟩)) := h7.cells 1
  have q2 : w7.cell? ⟨Wd, 2, none⟩ = some (.pointer (some ⟨R, 0, none⟩)) := h7.cells 2
  replace h7 : LW w7 Wd R ln 30 a5 H7x := h7
  have H7 := Lib.hid h7
  have B7 := Lib.hid b7
  have Z7 := Lib.hid z7
  have F7 : Hid _ := f7
  clear hw hown h7 b7 f7 z7
  go_wp2_with fail
  refine Calls.mono (lw_step H7.out (0) (9) (3)) ?_
  rintro e w8 ⟨rfl, hw⟩
  obtain ⟨H8x, h8, b8, f8, z8⟩ := hw.fresh B7.out Z7.out F7.out
  clear q0 q1 q2
  have q0 : w8.cell? ⟨Wd, 0, none⟩ = some (.pointer (some ⟨P, 0, none⟩)) := (h8.cells 0).trans (by rw [← HP.out]; rfl)
  have q1 : w8.cell? ⟨Wd, 1, none⟩ = some (.pointer (some ⟨ln false, 0, none⟩)) := h8.cells 1
  have q2 : w8.cell? ⟨Wd, 2, none⟩ = some (.pointer (some ⟨R, 0, none⟩)) := h8.cells 2
  replace h8 : LW w8 Wd R ln 30 a6 H8x := h8
  have H8 := Lib.hid h8
  have B8 := Lib.hid b8
  have Z8 := Lib.hid z8
  have F8 : Hid _ := f8
  clear hw h8 b8 f8 z8
  rw [st6]
  go_wp2_with fail
  refine Calls.mono (lw_transcript H8.out (by rw [ev6]; intro e he; simp at he; rcases he with rfl | rfl <;> decide)) ?_
  rintro e w9 ⟨vT, rfl, ht, h9, hb9⟩
  rw [ev6] at ht
  generalize a6.s.o false = o6
  obtain ⟨sp, sc, Q, rfl, hle, hcm, hQ, hget⟩ := ht.get
  obtain ⟨g, x0, rfl, hg1, hg2, hg3, g0, g1, g2, hs0, _⟩ := hget 0 _ rfl
  obtain ⟨g', x1, e1, _, _, _, y0, y1, y2, hs1, _⟩ := hget 1 _ rfl
  obtain rfl : g' = g := by simpa using e1.symm
  clear q0 q1 q2
  have q2 : w9.cell? ⟨Wd, 2, none⟩ = some (.pointer (some ⟨R, 0, none⟩)) := h9.cells 2
  have hcv := hs1.conv
  obtain ⟨a, c, rfl, _, _⟩ := hs1.form
  have hcv' : (convert 22 9 (.slice a 1 c)).run Tryd.prog w9 = .ok (.string ⟨#[105]⟩) w9 := hcv
  have H9 := Lib.hid h9
  have B9 : Hid (Below w.heap.size w w9) := B8.out.trans (hb9.mono Z8.out)
  have hfd := field63 (.slice (some ⟨g', 0, none⟩) 2 sc) o6 w9
  clear ht hget e1 hs0 hs1 h9 hb9 hcv
  go_wp2_with fail
  refine Calls.mono (lw_rwaits H9.out true 1 rfl 1 (by rw [w6w]; rfl)) ?_
  rintro e w10 ⟨rfl, rfl⟩
  go_wp2_with fail
  go_ret
  exact ⟨rfl, B9.out⟩

end Go.Proofs.YthpdphbppapkhaaDoor
