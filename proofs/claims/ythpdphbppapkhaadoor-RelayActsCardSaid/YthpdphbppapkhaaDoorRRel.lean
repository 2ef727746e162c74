/-
  The reference's relay in memory. Condition: none; what it is made of lies apart.
-/
import Derived.Test.YthpdphbppapkhaaDoorSame7
import Derived.Test.YthpdphbppapkhaaDoorRefPty
namespace Go.Proofs.YthpdphbppapkhaaDoor
open Go.RowKit qb
set_option linter.unusedVariables false

/-- The greatest of some times. -/
def topT : List Int → Int
  | [] => 0
  | t :: l => l.foldl (fun g x => if g < x then x else g) t

theorem topT_snoc (l : List Int) (t : Int) : topT (l ++ [t]) = if l = [] ∨ topT l < t then t else topT l := by
  cases l with
  | nil => simp [topT]
  | cons a l => simp [topT, List.foldl_append]

def rrCells (m : Bool → Nat) (v : Bool → Value) (o : Bool → Bool) (vE vT : Value) : Array Value :=
  #[.pointer (some ⟨m true, 0, none⟩), .pointer (some ⟨m false, 0, none⟩), vE, .bool (o false), .bool (o true), v false, v true, vT]

structure RR (w : World) (r : Nat) (m : Bool → Nat) (N : Nat) (s : RS) (ts : List Int) (Fs : Bool → List Nat) (v : Bool → Value) (vE vT : Value) (evl : List (Ev × Value)) (Q : List Nat) (col : Nat → Nat) : Prop where
  hl : ∀ d, RefP w (m d) (Fs d) N (s.l d)
  hR : w.heap[r]? = some (.cells (rrCells m v s.o vE vT) 83 (0, 0))
  hw : ∀ d, Slc w Q (v d) (s.w d)
  rowT : w.ownsRow 0 2 1 vT ts.length (ts.map fun x => .int .i64 x)
  row : w.ownsRow 0 69 3 vE s.evs.length (evCells evl)
  evq : evl.map Prod.fst = s.evs
  evd : ∀ x, x ∈ evl → Slc w Q x.2 x.1.data
  cF : ∀ d k, k ∈ Fs d → col k = lc d
  cR : col r = 3
  cT : ∀ k, k ∈ vT.ownBlock.toList → col k = 4
  cE : ∀ k, k ∈ vE.ownBlock.toList → col k = 5
  cQ : ∀ k, k ∈ Q → col k = 6
  qlt : ∀ k, k ∈ Q → k < w.heap.size

/-- The times that it holds. -/
structure TimesOk (s : RS) (ts : List Int) : Prop where
  ok0 : s.ok = false → ts = []
  ok1 : s.ok = true → ts ≠ [] ∧ topT ts = s.t
  tl : ts.length = s.evs.length

def RH (Fs : Bool → List Nat) (r : Nat) (vE vT : Value) (Q : List Nat) : List Nat := Fs true ++ (Fs false ++ (r :: (vT.ownBlock.toList ++ (vE.ownBlock.toList ++ Q))))

theorem mem_RH {Fs : Bool → List Nat} {r : Nat} {vE vT : Value} {Q : List Nat} {k : Nat} : k ∈ RH Fs r vE vT Q ↔ (∃ d, k ∈ Fs d) ∨ k = r ∨ k ∈ vT.ownBlock.toList ∨ k ∈ vE.ownBlock.toList ∨ k ∈ Q := by
  unfold RH
  rw [List.mem_append, List.mem_append, List.mem_cons, List.mem_append, List.mem_append]
  constructor
  · rintro (h | h | h | h | h | h)
    · exact .inl ⟨true, h⟩
    · exact .inl ⟨false, h⟩
    · exact .inr (.inl h)
    · exact .inr (.inr (.inl h))
    · exact .inr (.inr (.inr (.inl h)))
    · exact .inr (.inr (.inr (.inr h)))
  · rintro (⟨d, h⟩ | h | h | h | h)
    · cases d
      · exact .inr (.inl h)
      · exact .inl h
    · exact .inr (.inr (.inl h))
    · exact .inr (.inr (.inr (.inl h)))
    · exact .inr (.inr (.inr (.inr (.inl h))))
    · exact .inr (.inr (.inr (.inr (.inr h))))

/-- How it grew. -/
def Gr (w w' : World) (H H' : List Nat) : Prop := Keeps H w w' ∧ ∀ k, k ∈ H' → k ∈ H ∨ w.heap.size ≤ k

theorem Gr.trans {w w1 w2 : World} {H H1 H2 : List Nat} (h1 : Gr w w1 H H1) (h2 : Gr w1 w2 H1 H2) : Gr w w2 H H2 := by
  refine ⟨h1.1.trans h2.1 h1.2, fun k hk => ?_⟩
  rcases h2.2 k hk with h | h
  · exact h1.2 k h
  · exact .inr (Nat.le_trans h1.1.size h)

theorem Gr.below {w w' : World} {H : List Nat} (hb : Below w.heap.size w w') : Gr w w' H H := ⟨Keeps.of_below hb H, fun _ h => .inl h⟩
theorem Gr.refl (w : World) (H : List Nat) : Gr w w H H := Gr.below (Below.refl _ _)

section
variable {w w' : World} {r : Nat} {m : Bool → Nat} {N : Nat} {s : RS} {ts : List Int} {Fs : Bool → List Nat} {v : Bool → Value} {vE vT : Value} {evl : List (Ev × Value)} {Q : List Nat} {col : Nat → Nat}

theorem RR.lt (h : RR w r m N s ts Fs v vE vT evl Q col) : ∀ k, k ∈ RH Fs r vE vT Q → k < w.heap.size := by
  intro k hk
  rcases mem_RH.1 hk with ⟨d, hd⟩ | rfl | hk | hk | hk
  · exact (h.hl d).lt k hd
  · exact (Array.getElem?_eq_some_iff.1 h.hR).1
  · exact (row_lt h.rowT k hk).2
  · exact (row_lt h.row k hk).2
  · exact h.qlt k hk

theorem RR.keeps {X : List Nat} (h : RR w r m N s ts Fs v vE vT evl Q col) (hk : Keeps X w w') (hd : ∀ k, k ∈ RH Fs r vE vT Q → k ∉ X) : RR w' r m N s ts Fs v vE vT evl Q col :=
  { h with
    hl := fun d => (h.hl d).keeps hk (fun k hk => hd k (mem_RH.2 (.inl ⟨d, hk⟩)))
    hR := (hk.block r (h.lt r (mem_RH.2 (.inr (.inl rfl)))) (hd r (mem_RH.2 (.inr (.inl rfl))))).trans h.hR
    hw := fun d => (h.hw d).keeps hk (fun k hk => hd k (mem_RH.2 (.inr (.inr (.inr (.inr hk))))))
    rowT := row_keeps h.rowT hk (fun k hk => hd k (mem_RH.2 (.inr (.inr (.inl hk)))))
    row := row_keeps h.row hk (fun k hk => hd k (mem_RH.2 (.inr (.inr (.inr (.inl hk))))))
    evd := fun x hx => (h.evd x hx).keeps hk (fun k hk => hd k (mem_RH.2 (.inr (.inr (.inr (.inr hk))))))
    qlt := fun k hk' => Nat.lt_of_lt_of_le (h.qlt k hk') hk.size }

theorem RR.below (h : RR w r m N s ts Fs v vE vT evl Q col) (hb : Below w.heap.size w w') : RR w' r m N s ts Fs v vE vT evl Q col :=
  h.keeps (Keeps.of_below hb []) (fun _ _ h => by cases h)

theorem RR.cells (h : RR w r m N s ts Fs v vE vT evl Q col) (j : Nat) : w.cell? ⟨r, j, none⟩ = (rrCells m v s.o vE vT)[j]? := cell_at h.hR j
theorem RR.frozen (h : RR w r m N s ts Fs v vE vT evl Q col) (j : Nat) : w.frozen? ⟨r, j, none⟩ = false := frozen_of_row _ _ _ _ _ h.hR

theorem lc_ne (d : Bool) : lc d ≠ 3 ∧ lc d ≠ 4 ∧ lc d ≠ 5 ∧ lc d ≠ 6 := by cases d <;> simp [lc]
theorem lc_ne' {d e : Bool} (h : e ≠ d) : lc e ≠ lc d := by cases d <;> cases e <;> simp_all [lc]

/-- Behind a call on one of its lines; X: more bytes. -/
theorem RR.line (h : RR w r m N s ts Fs v vE vT evl Q col) (d : Bool) {F' : List Nat} {l' : Line} (hp : RefP w' (m d) F' N l') (hk : Keeps (Fs d) w w') (hs : ∀ k, k ∈ F' → k ∈ Fs d ∨ w.heap.size ≤ k) (X : List Nat) (hX : ∀ k, k ∈ X → w.heap.size ≤ k ∧ k < w'.heap.size ∧ k ∉ F') :
    (∃ col', RR w' r m N { s with l := upd s.l d l' } ts (upd Fs d F') v vE vT evl (Q ++ X) col') ∧ Gr w w' (RH Fs r vE vT Q) (RH (upd Fs d F') r vE vT (Q ++ X)) := by
  have hlt := h.lt
  obtain ⟨n3, n4, n5, n6⟩ := lc_ne d
  have hq : ∀ k, k ∈ Q → k ∉ Fs d := fun k h1 h2 => n6 ((h.cF d k h2).symm.trans (h.cQ k h1))
  have hne : ∀ e, e ≠ d → ∀ k, k ∈ Fs e → k ∉ Fs d := fun e he k h1 h2 => lc_ne' he ((h.cF e k h1).symm.trans (h.cF d k h2))
  have l1 : ∀ k, k ∈ RH Fs r vE vT Q → (if k < w.heap.size then col k else if k ∈ X then 6 else lc d) = col k := fun k hk => if_pos (hlt k hk)
  refine ⟨⟨fun k => if k < w.heap.size then col k else if k ∈ X then 6 else lc d, ?_⟩, ⟨hk.os, hk.tape, hk.output, hk.size, fun k h1 h2 => hk.block k h1 (fun h3 => h2 (mem_RH.2 (.inl ⟨d, h3⟩)))⟩, fun k hk => ?_⟩
  · exact { h with
      hl := fun e => by
        by_cases he : e = d
        · subst he; rw [upd_same]; simp only [upd_same]; exact hp
        · simp only [upd_ne _ _ he]; exact (h.hl e).keeps hk (hne e he)
      hR := (hk.block r (hlt r (mem_RH.2 (.inr (.inl rfl)))) (fun hm => n3 ((h.cF d r hm).symm.trans h.cR))).trans h.hR
      hw := fun e => ((h.hw e).keeps hk hq).mono (fun k hk => List.mem_append.2 (.inl hk))
      rowT := row_keeps h.rowT hk (fun k h1 h2 => n4 ((h.cF d k h2).symm.trans (h.cT k h1)))
      row := row_keeps h.row hk (fun k h1 h2 => n5 ((h.cF d k h2).symm.trans (h.cE k h1)))
      evd := fun x hx => ((h.evd x hx).keeps hk hq).mono (fun k hk => List.mem_append.2 (.inl hk))
      cF := fun e k hk' => by
        by_cases he : e = d
        · subst he
          rw [upd_same] at hk'
          rcases hs k hk' with h' | h'
          · rw [l1 k (mem_RH.2 (.inl ⟨_, h'⟩))]; exact h.cF _ k h'
          · simp only [if_neg (Nat.not_lt.2 h'), if_neg (fun hx => (hX k hx).2.2 hk')]
        · rw [upd_ne _ _ he] at hk'
          rw [l1 k (mem_RH.2 (.inl ⟨_, hk'⟩))]; exact h.cF _ k hk'
      cR := by rw [l1 r (mem_RH.2 (.inr (.inl rfl)))]; exact h.cR
      cT := fun k hk => by rw [l1 k (mem_RH.2 (.inr (.inr (.inl hk))))]; exact h.cT k hk
      cE := fun k hk => by rw [l1 k (mem_RH.2 (.inr (.inr (.inr (.inl hk)))))]; exact h.cE k hk
      cQ := fun k hk => by
        rcases List.mem_append.1 hk with hk | hk
        · rw [l1 k (mem_RH.2 (.inr (.inr (.inr (.inr hk)))))]; exact h.cQ k hk
        · simp only [if_neg (Nat.not_lt.2 (hX k hk).1), if_pos hk]
      qlt := fun k hk' => by
        rcases List.mem_append.1 hk' with h' | h'
        · exact Nat.lt_of_lt_of_le (h.qlt k h') hk.size
        · exact (hX k h').2.1 }
  · rcases mem_RH.1 hk with ⟨e, hd⟩ | hk | hk | hk | hk
    · by_cases he : e = d
      · subst he
        rw [upd_same] at hd
        rcases hs k hd with h | h
        · exact .inl (mem_RH.2 (.inl ⟨_, h⟩))
        · exact .inr h
      · rw [upd_ne _ _ he] at hd
        exact .inl (mem_RH.2 (.inl ⟨e, hd⟩))
    · exact .inl (mem_RH.2 (.inr (.inl hk)))
    · exact .inl (mem_RH.2 (.inr (.inr (.inl hk))))
    · exact .inl (mem_RH.2 (.inr (.inr (.inr (.inl hk)))))
    · rcases List.mem_append.1 hk with hk | hk
      · exact .inl (mem_RH.2 (.inr (.inr (.inr (.inr hk)))))
      · exact .inr (hX k hk).1

theorem RR.ne (h : RR w r m N s ts Fs v vE vT evl Q col) : (∀ d k, k ∈ Fs d → k ≠ r) ∧ (∀ k, k ∈ Q → k ≠ r) ∧ (∀ k, k ∈ vE.ownBlock.toList → k ≠ r) ∧ (∀ k, k ∈ vT.ownBlock.toList → k ≠ r) := by
  have c := h.cR
  refine ⟨fun d k hk e => ?_, fun k hk e => ?_, fun k hk e => ?_, fun k hk e => ?_⟩ <;> subst e
  · exact (lc_ne d).1 ((h.cF d _ hk).symm.trans c)
  · have := (h.cQ _ hk).symm.trans c; omega
  · have := (h.cE _ hk).symm.trans c; omega
  · have := (h.cT _ hk).symm.trans c; omega

/-- Another state of its own cells. -/
theorem RR.setR (h : RR w r m N s ts Fs v vE vT evl Q col) {v' : Bool → Value} {w2 : Bool → List Int} {o' : Bool → Bool} (hk : Keeps [r] w w') (hR : w'.heap[r]? = some (.cells (rrCells m v' o' vE vT) 83 (0, 0)))
    (hw : ∀ d, Slc w Q (v' d) (w2 d)) : RR w' r m N { s with w := w2, o := o' } ts Fs v' vE vT evl Q col := by
  obtain ⟨a1, a2, a3, a4⟩ := h.ne
  have hq : ∀ k, k ∈ Q → k ∉ [r] := fun k hk => by simpa using a2 k hk
  exact { h with
    hl := fun d => (h.hl d).keeps hk (fun k hk => by simpa using a1 d k hk)
    hR := hR
    hw := fun d => (hw d).keeps hk hq
    rowT := row_keeps h.rowT hk (fun k hk => by simpa using a4 k hk)
    row := row_keeps h.row hk (fun k hk => by simpa using a3 k hk)
    evd := fun x hx => (h.evd x hx).keeps hk hq
    qlt := fun k hk' => Nat.lt_of_lt_of_le (h.qlt k hk') hk.size }

theorem gr_set {j : Nat} {x : Value} (Fs : Bool → List Nat) (r : Nat) (vE vT : Value) (Q : List Nat) : Gr w (w.setCell ⟨r, j, none⟩ x) (RH Fs r vE vT Q) (RH Fs r vE vT Q) :=
  ⟨⟨rfl, rfl, rfl, by simp, fun k _ hn => heap_setCell_other _ _ _ _ (fun e => hn (mem_RH.2 (.inr (.inl e))))⟩, fun _ h => .inl h⟩

theorem RR.wait (h : RR w r m N s ts Fs v vE vT evl Q col) (d : Bool) {u : Value} {xs : List Int} (hu : Slc w Q u xs) :
    RR (w.setCell ⟨r, if d then 6 else 5, none⟩ u) r m N { s with w := upd s.w d xs } ts Fs (upd v d u) vE vT evl Q col := by
  refine h.setR (v' := upd v d u) (w2 := upd s.w d xs) (o' := s.o) setR_keeps ?_ (fun e => ?_)
  · have := heap_setCell_same w r (if d then 6 else 5) _ _ u h.hR
    cases d <;> exact this
  · by_cases he : e = d
    · subst he; rw [upd_same, upd_same]; exact hu
    · rw [upd_ne _ _ he, upd_ne _ _ he]; exact h.hw e

theorem RR.over (h : RR w r m N s ts Fs v vE vT evl Q col) (d : Bool) :
    RR (w.setCell ⟨r, if d then 4 else 3, none⟩ (.bool true)) r m N { s with o := upd s.o d true } ts Fs v vE vT evl Q col := by
  refine h.setR (v' := v) (w2 := s.w) (o' := upd s.o d true) setR_keeps ?_ (fun e => h.hw e)
  have := heap_setCell_same w r (if d then 4 else 3) _ _ (.bool true) h.hR
  cases d <;> exact this

/-- Where a row of its own grew, what is apart is as it was. -/
theorem RR.grown (h : RR w r m N s ts Fs v vE vT evl Q col) {u : Value} (hg : w.grownBy w' u.ownBlock) (c : Nat) (hc : ∀ k, k ∈ u.ownBlock.toList → col k = c) :
    Keeps u.ownBlock.toList w w' ∧ (c ≠ 1 → c ≠ 2 → ∀ d, RefP w' (m d) (Fs d) N (s.l d)) ∧ (c ≠ 3 → w'.heap[r]? = some (.cells (rrCells m v s.o vE vT) 83 (0, 0))) ∧ (c ≠ 6 → ∀ {y : Value} {xs : List Int}, Slc w Q y xs → Slc w' Q y xs) ∧
    (c ≠ 4 → w'.ownsRow 0 2 1 vT ts.length (ts.map fun x => .int .i64 x)) ∧ (c ≠ 5 → w'.ownsRow 0 69 3 vE s.evs.length (evCells evl)) := by
  have hk : Keeps u.ownBlock.toList w w' := ⟨hg.os, hg.tape, hg.output, hg.size, fun k hk hn => hg.block k hk (fun e => hn (by rw [← e]; simp))⟩
  refine ⟨hk, fun n1 n2 d => (h.hl d).keeps hk (fun k h1 h2 => ?_), fun n3 => (hk.block r (h.lt r (mem_RH.2 (.inr (.inl rfl)))) (fun hm => n3 ((hc r hm).symm.trans h.cR))).trans h.hR,
    fun n6 y xs hy => hy.keeps hk (fun k h1 h2 => n6 ((hc k h2).symm.trans (h.cQ k h1))), fun n4 => row_keeps h.rowT hk (fun k h1 h2 => n4 ((hc k h2).symm.trans (h.cT k h1))), fun n5 => row_keeps h.row hk (fun k h1 h2 => n5 ((hc k h2).symm.trans (h.cE k h1)))⟩
  have e := (hc k h2).symm.trans (h.cF d k h1)
  cases d <;> simp [lc] at e <;> omega

/-- A time more. -/
theorem RR.time (h : RR w r m N s ts Fs v vE vT evl Q col) {w4 : World} {vT' : Value} {t : Int} (hg : w.grownBy w4 vT.ownBlock) (hrow : w4.ownsRow 0 2 1 vT' (ts.length + 1) (ts.map (fun x => Value.int .i64 x) ++ [.int .i64 t]))
    (hat : vT'.ownBlock = vT.ownBlock ∨ ∃ g, vT'.ownBlock = some g ∧ w.heap.size ≤ g) :
    (∃ col', RR (w4.setCell ⟨r, 7, none⟩ vT') r m N s (ts ++ [t]) Fs v vE vT' evl Q col') ∧ Gr w (w4.setCell ⟨r, 7, none⟩ vT') (RH Fs r vE vT Q) (RH Fs r vE vT' Q) ∧ ∀ {y : Value} {xs : List Int}, Slc w Q y xs → Slc (w4.setCell ⟨r, 7, none⟩ vT') Q y xs := by
  obtain ⟨a1, a2, a3, a4⟩ := h.ne
  obtain ⟨hk, b1, b2, b3, b4, b5⟩ := h.grown hg 4 h.cT
  have hlt := h.lt
  have hkr : Keeps [r] w4 (w4.setCell ⟨r, 7, none⟩ vT') := setR_keeps
  have hT' : ∀ k, k ∈ vT'.ownBlock.toList → k ≠ r := by
    intro k hk
    rcases hat with hat | ⟨g, hat, hge⟩
    · rw [hat] at hk; exact a4 k hk
    · rw [hat] at hk
      have := hlt r (mem_RH.2 (.inr (.inl rfl)))
      have : k = g := by simpa using hk
      omega
  have hq : ∀ {y : Value} {xs : List Int}, Slc w Q y xs → Slc (w4.setCell ⟨r, 7, none⟩ vT') Q y xs := fun hy => (b3 (by omega) hy).keeps hkr (fun k hk => by simpa using a2 k hk)
  have l1 : ∀ k, k ∈ RH Fs r vE vT Q → (if k < w.heap.size then col k else 4) = col k := fun k hk => if_pos (hlt k hk)
  refine ⟨⟨fun k => if k < w.heap.size then col k else 4, {
    hl := fun d => (b1 (by omega) (by omega) d).keeps hkr (fun k hk => by simpa using a1 d k hk)
    hR := heap_setCell_same w4 r 7 _ _ vT' (b2 (by omega))
    hw := fun d => hq (h.hw d)
    rowT := by
      rw [List.length_append, List.map_append]
      exact row_keeps hrow hkr (fun k hk => by simpa using hT' k hk)
    row := row_keeps (b5 (by omega)) hkr (fun k hk => by simpa using a3 k hk)
    evq := h.evq
    evd := fun x hx => hq (h.evd x hx)
    cF := fun d k hk => by rw [l1 k (mem_RH.2 (.inl ⟨d, hk⟩))]; exact h.cF d k hk
    cR := by rw [l1 r (mem_RH.2 (.inr (.inl rfl)))]; exact h.cR
    cT := fun k hk => by
      rcases hat with hat | ⟨g, hat, hge⟩
      · rw [hat] at hk
        rw [l1 k (mem_RH.2 (.inr (.inr (.inl hk))))]; exact h.cT k hk
      · rw [hat] at hk
        have : k = g := by simpa using hk
        subst this
        simp only [if_neg (Nat.not_lt.2 hge)]
    cE := fun k hk => by rw [l1 k (mem_RH.2 (.inr (.inr (.inr (.inl hk)))))]; exact h.cE k hk
    cQ := fun k hk => by rw [l1 k (mem_RH.2 (.inr (.inr (.inr (.inr hk)))))]; exact h.cQ k hk
    qlt := fun k hk' => by have := h.qlt k hk'; have := hk.size; simp; omega }⟩, ⟨⟨hk.os, hk.tape, hk.output, by simpa using hk.size, fun k h1 h2 => (hkr.block k (Nat.lt_of_lt_of_le h1 hk.size) (fun hm => h2 (mem_RH.2 (.inr (.inl (by simpa using hm)))))).trans (hk.block k h1 (fun h3 => h2 (mem_RH.2 (.inr (.inr (.inl h3))))))⟩, fun k hk => ?_⟩, hq⟩
  rcases mem_RH.1 hk with hk | hk | hk | hk | hk
  · exact .inl (mem_RH.2 (.inl hk))
  · exact .inl (mem_RH.2 (.inr (.inl hk)))
  · rcases hat with hat | ⟨g, hat, hge⟩
    · rw [hat] at hk; exact .inl (mem_RH.2 (.inr (.inr (.inl hk))))
    · rw [hat] at hk
      have : k = g := by simpa using hk
      exact .inr (by omega)
  · exact .inl (mem_RH.2 (.inr (.inr (.inr (.inl hk)))))
  · exact .inl (mem_RH.2 (.inr (.inr (.inr (.inr hk)))))

/-- A note more. -/
theorem RR.note (h : RR w r m N s ts Fs v vE vT evl Q col) {w4 : World} {vE' d : Value} {e : Ev} (hg : w.grownBy w4 vE.ownBlock) (hrow : w4.ownsRow 0 69 3 vE' (s.evs.length + 1) (evCells evl ++ [.int .i64 e.dir, .int .i64 e.time, d]))
    (hat : vE'.ownBlock = vE.ownBlock ∨ ∃ g, vE'.ownBlock = some g ∧ w.heap.size ≤ g) (hd : Slc w Q d e.data) :
    (∃ col', RR (w4.setCell ⟨r, 2, none⟩ vE') r m N { s with evs := s.evs ++ [e] } ts Fs v vE' vT (evl ++ [(e, d)]) Q col') ∧ Gr w (w4.setCell ⟨r, 2, none⟩ vE') (RH Fs r vE vT Q) (RH Fs r vE' vT Q) := by
  obtain ⟨a1, a2, a3, a4⟩ := h.ne
  obtain ⟨hk, b1, b2, b3, b4, b5⟩ := h.grown hg 5 h.cE
  have hlt := h.lt
  have hkr : Keeps [r] w4 (w4.setCell ⟨r, 2, none⟩ vE') := setR_keeps
  have hE' : ∀ k, k ∈ vE'.ownBlock.toList → k ≠ r := by
    intro k hk
    rcases hat with hat | ⟨g, hat, hge⟩
    · rw [hat] at hk; exact a3 k hk
    · rw [hat] at hk
      have := hlt r (mem_RH.2 (.inr (.inl rfl)))
      have : k = g := by simpa using hk
      omega
  have hq : ∀ {y : Value} {xs : List Int}, Slc w Q y xs → Slc (w4.setCell ⟨r, 2, none⟩ vE') Q y xs := fun hy => (b3 (by omega) hy).keeps hkr (fun k hk => by simpa using a2 k hk)
  have l1 : ∀ k, k ∈ RH Fs r vE vT Q → (if k < w.heap.size then col k else 5) = col k := fun k hk => if_pos (hlt k hk)
  refine ⟨⟨fun k => if k < w.heap.size then col k else 5, {
    hl := fun d => (b1 (by omega) (by omega) d).keeps hkr (fun k hk => by simpa using a1 d k hk)
    hR := heap_setCell_same w4 r 2 _ _ vE' (b2 (by omega))
    hw := fun d => hq (h.hw d)
    rowT := row_keeps (b4 (by omega)) hkr (fun k hk => by simpa using a4 k hk)
    row := by
      rw [List.length_append, evCells_append]
      exact row_keeps hrow hkr (fun k hk => by simpa using hE' k hk)
    evq := by simp [h.evq]
    evd := fun x hx => by
      rcases List.mem_append.1 hx with hx | hx
      · exact hq (h.evd x hx)
      · obtain rfl : x = (e, d) := by simpa using hx
        exact hq hd
    cF := fun d k hk => by rw [l1 k (mem_RH.2 (.inl ⟨d, hk⟩))]; exact h.cF d k hk
    cR := by rw [l1 r (mem_RH.2 (.inr (.inl rfl)))]; exact h.cR
    cT := fun k hk => by rw [l1 k (mem_RH.2 (.inr (.inr (.inl hk))))]; exact h.cT k hk
    cE := fun k hk => by
      rcases hat with hat | ⟨g, hat, hge⟩
      · rw [hat] at hk
        rw [l1 k (mem_RH.2 (.inr (.inr (.inr (.inl hk)))))]; exact h.cE k hk
      · rw [hat] at hk
        have : k = g := by simpa using hk
        subst this
        simp only [if_neg (Nat.not_lt.2 hge)]
    cQ := fun k hk => by rw [l1 k (mem_RH.2 (.inr (.inr (.inr (.inr hk)))))]; exact h.cQ k hk
    qlt := fun k hk' => by have := h.qlt k hk'; have := hk.size; simp; omega }⟩, ⟨hk.os, hk.tape, hk.output, by simpa using hk.size, fun k h1 h2 => (hkr.block k (Nat.lt_of_lt_of_le h1 hk.size) (fun hm => h2 (mem_RH.2 (.inr (.inl (by simpa using hm)))))).trans (hk.block k h1 (fun h3 => h2 (mem_RH.2 (.inr (.inr (.inr (.inl h3)))))))⟩, fun k hk => ?_⟩
  rcases mem_RH.1 hk with hk | hk | hk | hk | hk
  · exact .inl (mem_RH.2 (.inl hk))
  · exact .inl (mem_RH.2 (.inr (.inl hk)))
  · exact .inl (mem_RH.2 (.inr (.inr (.inl hk))))
  · rcases hat with hat | ⟨g, hat, hge⟩
    · rw [hat] at hk; exact .inl (mem_RH.2 (.inr (.inr (.inr (.inl hk)))))
    · rw [hat] at hk
      have : k = g := by simpa using hk
      exact .inr (by omega)
  · exact .inl (mem_RH.2 (.inr (.inr (.inr (.inr hk)))))

/-- More bytes. -/
theorem RR.more (h : RR w r m N s ts Fs v vE vT evl Q col) (X : List Nat) (hX : ∀ k, k ∈ X → k < w.heap.size ∧ k ∉ RH Fs r vE vT Q) :
    ∃ col', RR w r m N s ts Fs v vE vT evl (Q ++ X) col' := by
  have l1 : ∀ k, k ∈ RH Fs r vE vT Q → (if k ∈ X then 6 else col k) = col k := fun k hk => if_neg (fun hx => (hX k hx).2 hk)
  exact ⟨fun k => if k ∈ X then 6 else col k, { h with
    hw := fun d => (h.hw d).mono (fun k hk => List.mem_append.2 (.inl hk))
    evd := fun x hx => (h.evd x hx).mono (fun k hk => List.mem_append.2 (.inl hk))
    cF := fun d k hk => by rw [l1 k (mem_RH.2 (.inl ⟨d, hk⟩))]; exact h.cF d k hk
    cR := by rw [l1 r (mem_RH.2 (.inr (.inl rfl)))]; exact h.cR
    cT := fun k hk => by rw [l1 k (mem_RH.2 (.inr (.inr (.inl hk))))]; exact h.cT k hk
    cE := fun k hk => by rw [l1 k (mem_RH.2 (.inr (.inr (.inr (.inl hk)))))]; exact h.cE k hk
    cQ := fun k hk => by
      rcases List.mem_append.1 hk with hk | hk
      · rw [l1 k (mem_RH.2 (.inr (.inr (.inr (.inr hk)))))]; exact h.cQ k hk
      · simp only [if_pos hk]
    qlt := fun k hk => by
      rcases List.mem_append.1 hk with hk | hk
      · exact h.qlt k hk
      · exact (hX k hk).1 }⟩

theorem RR.shown (h : RR w r m N s ts Fs v vE vT evl Q col) (hl : s.evs.length ≤ 4096) : Shown w vE s.evs := by
  have hvl : evl.length = s.evs.length := by rw [← h.evq]; simp
  have hrow := h.row
  rcases hrow.2 with ⟨rfl, e⟩ | ⟨g, cap, cur, rfl, hBg, hg, hnc, hcm, hcs, htk⟩
  · refine ⟨none, 0, by rw [e], by omega, by simp [maxLen], fun i e' he => ?_⟩
    have := (List.getElem?_eq_some_iff.1 he).1
    omega
  · refine ⟨_, _, rfl, hnc, hcm, fun i e' he => ?_⟩
    have hi := (List.getElem?_eq_some_iff.1 he).1
    obtain ⟨e0, e1, e2⟩ := evCells_get evl i (by omega)
    have hfst : (evl[i]'(by omega)).1 = e' := by
      have : (evl.map Prod.fst)[i]? = some e' := by rw [h.evq]; exact he
      rw [List.getElem?_map, List.getElem?_eq_getElem (show i < evl.length by omega)] at this
      simpa using this
    have cell : ∀ j u, (evCells evl)[j]? = some u → w.cell? ⟨g, j, none⟩ = some u := by
      intro j u hj
      have hc := hrow.cells (g := g) rfl j u hj
      have hadd : (⟨g, 0, none⟩ : Addr).add j = ⟨g, 0 + j, none⟩ := by unfold Addr.add; split <;> simp_all
      rw [hadd, Nat.zero_add] at hc
      exact hc
    rw [Nat.mul_comm 3 i, hfst] at e0 e1
    rw [Nat.mul_comm 3 i] at e2
    refine ⟨g, (evl[i]'(by omega)).2, Q, rfl, (Array.getElem?_eq_some_iff.1 hg).1, cell _ _ e0, cell _ _ e1, cell _ _ e2, ?_⟩
    have := h.evd _ (List.getElem_mem (show i < evl.length by omega))
    rw [hfst] at this
    exact this
end

/-- Block r is a reference's relay; H: all its blocks. -/
def RRel (w : World) (r : Nat) (m : Bool → Nat) (N : Nat) (s : RS) (H : List Nat) : Prop :=
  ∃ ts Fs v vE vT evl Q col, H = RH Fs r vE vT Q ∧ RR w r m N s ts Fs v vE vT evl Q col ∧ TimesOk s ts

def RGo (w w' : World) (r : Nat) (m : Bool → Nat) (N : Nat) (H : List Nat) (s' : RS) : Prop :=
  ∃ H', RRel w' r m N s' H' ∧ Gr w w' H H'

theorem RRel.lt {w : World} {r : Nat} {m : Bool → Nat} {N : Nat} {s : RS} {H : List Nat} (h : RRel w r m N s H) : ∀ k, k ∈ H → k < w.heap.size := by
  obtain ⟨ts, Fs, v, vE, vT, evl, Q, col, rfl, h, _⟩ := h
  exact h.lt

theorem RRel.keeps {w w' : World} {r : Nat} {m : Bool → Nat} {N : Nat} {s : RS} {H X : List Nat} (h : RRel w r m N s H) (hk : Keeps X w w') (hd : ∀ k, k ∈ H → k ∉ X) : RRel w' r m N s H := by
  obtain ⟨ts, Fs, v, vE, vT, evl, Q, col, rfl, h, ht⟩ := h
  exact ⟨ts, Fs, v, vE, vT, evl, Q, col, rfl, h.keeps hk hd, ht⟩

theorem RRel.below {w w' : World} {r : Nat} {m : Bool → Nat} {N : Nat} {s : RS} {H : List Nat} (h : RRel w r m N s H) (hb : Below w.heap.size w w') : RRel w' r m N s H :=
  h.keeps (Keeps.of_below hb []) (fun _ _ h => by cases h)

/-- One of its lines. -/
theorem RRel.line {w : World} {r : Nat} {m : Bool → Nat} {N : Nat} {s : RS} {H : List Nat} (h : RRel w r m N s H) (d : Bool) : ∃ F, RefP w (m d) F N (s.l d) ∧ (∀ k, k ∈ F → k ∈ H) ∧
    ∀ w' F' l', RefP w' (m d) F' N l' → Keeps F w w' → (∀ k, k ∈ F' → k ∈ F ∨ w.heap.size ≤ k) → RGo w w' r m N H { s with l := upd s.l d l' } := by
  obtain ⟨ts, Fs, v, vE, vT, evl, Q, col, rfl, h, ht⟩ := h
  refine ⟨Fs d, h.hl d, fun k hk => mem_RH.2 (.inl ⟨d, hk⟩), fun w' F' l' hp hk hs => ?_⟩
  obtain ⟨⟨col', h1⟩, h2⟩ := h.line d hp hk hs [] (fun k hk => by cases hk)
  exact ⟨_, ⟨ts, _, v, vE, vT, evl, _, col', rfl, h1, ⟨ht.ok0, ht.ok1, ht.tl⟩⟩, h2⟩

end Go.Proofs.YthpdphbppapkhaaDoor
