/-
  A relay in memory (two lines, what waits, a clock, the notes), and what keeps it. No condition.
-/
import Derived.Test.YthpdphbppapkhaaDoorActs
import Derived.Laws.AppendOwnNone
import Derived.Deep.RegionHeld3
import Derived.Deep.RegionLaw
import Derived.Deep.AppendLies
namespace Go.Proofs.YthpdphbppapkhaaDoor
open Go.RowKit qb

/-- A note. -/
structure Ev where
  dir : Int
  time : Int
  data : List Int

/-- A slice of bytes in memory, in blocks of Q. -/
def Slc (w : World) (Q : List Nat) (v : Value) (xs : List Int) : Prop :=
  ∃ a n c, v = .slice a n c ∧ n ≤ c ∧ c ≤ maxLen ∧ xs.length = n ∧ ∀ i, i < n → ∃ b off, a = some ⟨b, off, none⟩ ∧ b ∈ Q ∧ b < w.heap.size ∧ w.cell? ⟨b, off + i, none⟩ = some (.int .u8 (xs.getD i 0))

theorem Slc.nil (w : World) (Q : List Nat) : Slc w Q (.slice none 0 0) [] := ⟨none, 0, 0, rfl, Nat.le_refl _, by simp [maxLen], rfl, fun i hi => by omega⟩

theorem Slc.keeps {w w' : World} {Q X : List Nat} {v : Value} {xs : List Int} (h : Slc w Q v xs) (hk : Keeps X w w') (hd : ∀ k, k ∈ Q → k ∉ X) : Slc w' Q v xs := by
  obtain ⟨a, n, c, rfl, h1, h2, h3, h4⟩ := h
  refine ⟨a, n, c, rfl, h1, h2, h3, fun i hi => ?_⟩
  obtain ⟨b, off, rfl, hq, hlt, hc⟩ := h4 i hi
  exact ⟨b, off, rfl, hq, Nat.lt_of_lt_of_le hlt hk.size, (World.cell?_of_block (a := ⟨b, off + i, none⟩) (hk.block b hlt (hd b hq))).trans hc⟩

theorem Slc.mono {w : World} {Q Q' : List Nat} {v : Value} {xs : List Int} (h : Slc w Q v xs) (hq : ∀ k, k ∈ Q → k ∈ Q') : Slc w Q' v xs := by
  obtain ⟨a, n, c, rfl, h1, h2, h3, h4⟩ := h
  refine ⟨a, n, c, rfl, h1, h2, h3, fun i hi => ?_⟩
  obtain ⟨b, off, rfl, hb, r⟩ := h4 i hi
  exact ⟨b, off, rfl, hq b hb, r⟩

theorem Slc.below {w w' : World} {Q : List Nat} {v : Value} {xs : List Int} (h : Slc w Q v xs) (hb : Below w.heap.size w w') : Slc w' Q v xs :=
  h.keeps (Keeps.of_below hb []) (fun _ _ h => by cases h)

theorem Slc.given {w : World} {Q F : List Nat} {a : Option Addr} {n c : Nat} {xs : List Int} (h : Slc w Q (.slice a n c) xs) (hd : ∀ k, k ∈ Q → k ∉ F) : qb.GivenIn w F a n c xs := by
  obtain ⟨a', n', c', e, h1, h2, h3, h4⟩ := h
  cases e
  refine ⟨h1, h2, h3, fun i hi => ?_⟩
  obtain ⟨b, off, rfl, hq, hlt, hc⟩ := h4 i hi
  exact ⟨b, off, rfl, hlt, hd b hq, hc⟩

theorem Slc.form {w : World} {Q : List Nat} {v : Value} {xs : List Int} (h : Slc w Q v xs) : ∃ a c, v = .slice a xs.length c ∧ xs.length ≤ c ∧ c ≤ maxLen := by
  obtain ⟨a, n, c, rfl, h1, h2, rfl, _⟩ := h
  exact ⟨a, c, rfl, h1, h2⟩

theorem Slc.cut {w : World} {Q : List Nat} {a : Option Addr} {n c k : Nat} {xs : List Int} (h : Slc w Q (.slice a n c) xs) (hk : k ≤ n) : Slc w Q (.slice a k c) (xs.take k) := by
  obtain ⟨a', n', c', e, h1, h2, h3, h4⟩ := h
  cases e
  refine ⟨a, k, c, rfl, by omega, h2, by simp; omega, fun j hj => ?_⟩
  have e : (xs.take k).getD j 0 = xs.getD j 0 := by simp [List.getD_eq_getElem?_getD, hj]
  rw [e]
  exact h4 j (by omega)

theorem Slc.drop {w : World} {Q : List Nat} {a : Option Addr} {n c k : Nat} {xs : List Int} (h : Slc w Q (.slice a n c) xs) (hk : k ≤ n) : Slc w Q (.slice (from_ a c k) (n - k) (c - k)) (xs.drop k) := by
  obtain ⟨a', n', c', e, h1, h2, h3, h4⟩ := h
  cases e
  refine ⟨_, _, _, rfl, by omega, by omega, by simp; omega, fun j hj => ?_⟩
  obtain ⟨b, off, rfl, hq, hlt, hc⟩ := h4 (k + j) (by omega)
  have e : (xs.drop k).getD j 0 = xs.getD (k + j) 0 := by simp [List.getD_eq_getElem?_getD]
  rw [e]
  refine ⟨b, off + k, ?_, hq, hlt, by rw [Nat.add_assoc]; exact hc⟩
  unfold from_
  rw [if_neg (by omega)]
  exact congrArg some (add_none b off k)

theorem Slc.of_own {w : World} {base : Nat} {v : Value} {n : Nat} {xs : List Int} (h : w.ownsRow base 5 1 v n (xs.map fun x => .int .u8 x)) : Slc w v.ownBlock.toList v xs := by
  have hl : xs.length = n := by have := h.1; simpa using this
  rcases h.2 with ⟨rfl, hz⟩ | ⟨g, cap, cur, rfl, _, hg, hnc, hcm, _⟩
  · have : xs = [] := List.eq_nil_of_length_eq_zero (by omega)
    subst this
    exact .nil _ _
  · refine ⟨_, _, _, rfl, hnc, hcm, hl, fun i hi => ⟨g, 0, rfl, by simp [Value.ownBlock], (Array.getElem?_eq_some_iff.1 hg).1, ?_⟩⟩
    have hc := h.cells (g := g) rfl i (.int .u8 (xs.getD i 0)) (by simp [List.getElem?_eq_getElem (show i < xs.length by omega)])
    have hadd : (⟨g, 0, none⟩ : Addr).add i = ⟨g, 0 + i, none⟩ := by unfold Addr.add; split <;> simp_all
    rwa [hadd] at hc

theorem Slc.conv {w : World} {Q : List Nat} {v : Value} {xs : List Int} (h : Slc w Q v xs) : (convert 22 9 v).run Tryd.prog w = .ok (.string (strOfNums xs)) w := by
  obtain ⟨a, n, c, rfl, h1, h2, h3, h4⟩ := h
  cases a with
  | none =>
    have hz : n = 0 := by
      rcases Nat.eq_zero_or_pos n with h | h
      · exact h
      · obtain ⟨_, _, e, _⟩ := h4 0 h; cases e
    subst hz
    have hx : xs = [] := List.eq_nil_of_length_eq_zero h3
    subst hx
    rw [run_convert_bytes_nil w 22 5 Tryd.underlying22 Tryd.underlying5 0 c 9 Tryd.underlying9]
    rfl
  | some x =>
    rcases Nat.eq_zero_or_pos n with hn | hn
    · subst hn
      have hx : xs = [] := List.eq_nil_of_length_eq_zero h3
      subst hx
      have hl : (loadCells x 0).run Tryd.prog w = .ok #[] w := by
        have := run_loadCells_list (P := Tryd.prog) w x [] (fun j v hj => by simp at hj)
        simpa using this
      rw [run_convert_bytes_string w 22 9 5 _ 0 c Tryd.underlying22 Tryd.underlying5 Tryd.underlying9, run_bytesToString w x 0 c [] (by simpa using hl)]
      rfl
    · obtain ⟨b, off, e, _⟩ := h4 0 hn
      cases e
      refine run_convert_bytes_arg w 22 5 Tryd.underlying22 Tryd.underlying5 b off n c xs h3 (fun i hi => ?_) 9 Tryd.underlying9
      obtain ⟨b', off', e, _, _, hc⟩ := h4 i hi
      cases e
      exact hc

/-- The notes' cells. -/
def evCells (l : List (Ev × Value)) : List Value := l.flatMap fun p => [.int .i64 p.1.dir, .int .i64 p.1.time, p.2]

theorem evCells_length (l : List (Ev × Value)) : (evCells l).length = l.length * 3 := by
  induction l with
  | nil => rfl
  | cons x r ih => simp only [evCells, List.flatMap_cons, List.length_append, List.length_cons, List.length_nil] at ih ⊢; omega

theorem evCells_append (a b : List (Ev × Value)) : evCells (a ++ b) = evCells a ++ evCells b := by unfold evCells; rw [List.flatMap_append]

theorem evCells_get (l : List (Ev × Value)) : ∀ i (h : i < l.length), (evCells l)[3 * i]? = some (.int .i64 l[i].1.dir) ∧ (evCells l)[3 * i + 1]? = some (.int .i64 l[i].1.time) ∧ (evCells l)[3 * i + 2]? = some l[i].2 := by
  induction l with
  | nil => intro i h; simp at h
  | cons x r ih =>
    intro i h
    have e : evCells (x :: r) = [.int .i64 x.1.dir, .int .i64 x.1.time, x.2] ++ evCells r := rfl
    cases i with
    | zero => simp [e]
    | succ i =>
      have := ih i (by simpa using h)
      rw [e]
      refine ⟨?_, ?_, ?_⟩
      · rw [List.getElem?_append_right (by simp; omega)]
        simpa [show 3 * (i + 1) - 3 = 3 * i by omega] using this.1
      · rw [List.getElem?_append_right (by simp; omega)]
        simpa [show 3 * (i + 1) + 1 - 3 = 3 * i + 1 by omega] using this.2.1
      · rw [List.getElem?_append_right (by simp; omega)]
        simpa [show 3 * (i + 1) + 2 - 3 = 3 * i + 2 by omega] using this.2.2

/-- The relay and its two lines (true: the user's, and the way in; false: the child's, and the way out). -/
structure RS where
  l : Bool → Line
  w : Bool → List Int
  o : Bool → Bool
  t : Int
  ok : Bool
  evs : List Ev
  left : Int

def upd {α : Type} (f : Bool → α) (d : Bool) (x : α) : Bool → α := fun e => if e = d then x else f e
theorem upd_same {α : Type} (f : Bool → α) (d : Bool) (x : α) : upd f d x d = x := by simp [upd]
theorem upd_other {α : Type} (f : Bool → α) (d : Bool) (x : α) : upd f d x (!d) = f (!d) := by simp [upd]
theorem upd_ne {α : Type} (f : Bool → α) {d e : Bool} (x : α) (h : e ≠ d) : upd f d x e = f e := by simp [upd, h]
theorem upd_self {α : Type} (f : Bool → α) (d : Bool) : upd f d (f d) = f := by funext e; simp only [upd]; split <;> simp_all

def relCells (ln : Bool → Nat) (v : Bool → Value) (o : Bool → Bool) (K : Nat) (vE : Value) (left : Int) : Array Value :=
  #[.pointer (some ⟨ln false, 0, none⟩), .pointer (some ⟨ln true, 0, none⟩), .int .i64 0, .int .i64 1, v false, .bool (o false),
    .pointer (some ⟨ln true, 0, none⟩), .pointer (some ⟨ln false, 0, none⟩), .int .i64 1, .int .i64 0, v true, .bool (o true), .pointer (some ⟨K, 0, none⟩), vE, .int .i64 left]

/-- Which of the two lines' blocks. -/
def lc (d : Bool) : Nat := if d then 1 else 2

/-- Block R is a relay; every block of it has a colour of its kind. -/
structure RelAt (w : World) (R : Nat) (ln : Bool → Nat) (N : Nat) (s : RS) (K : Nat) (Fs : Bool → List Nat) (v : Bool → Value) (vE : Value) (evl : List (Ev × Value)) (Q : List Nat) (col : Nat → Nat) : Prop where
  hl : ∀ d, IsP w (ln d) (Fs d) N (s.l d)
  hR : w.heap[R]? = some (.cells (relCells ln v s.o K vE s.left) 100 (0, 0))
  hK : w.heap[K]? = some (.cells #[.int .i64 s.t, .bool s.ok] 110 (0, 0))
  hw : ∀ d, Slc w Q (v d) (s.w d)
  row : w.ownsRow 0 69 3 vE s.evs.length (evCells evl)
  evq : evl.map Prod.fst = s.evs
  evd : ∀ x, x ∈ evl → Slc w Q x.2 x.1.data
  c0 : col 0 = 0
  cF : ∀ d k, k ∈ Fs d → col k = lc d
  cR : col R = 3
  cK : col K = 4
  cE : ∀ k, k ∈ vE.ownBlock.toList → col k = 5
  cQ : ∀ k, k ∈ Q → col k = 6
  qlt : ∀ k, k ∈ Q → k < w.heap.size
  len : s.evs.length ≤ 4096
  lf : 0 ≤ s.left ∧ s.left ≤ 262144
  ck : s.ok = false → s.t = 0

/-- All blocks of a relay. -/
def RelH (Fs : Bool → List Nat) (R K : Nat) (vE : Value) (Q : List Nat) : List Nat := Fs true ++ (Fs false ++ (R :: K :: (vE.ownBlock.toList ++ Q)))

theorem mem_relH {Fs : Bool → List Nat} {R K : Nat} {vE : Value} {Q : List Nat} {k : Nat} : k ∈ RelH Fs R K vE Q ↔ (∃ d, k ∈ Fs d) ∨ k = R ∨ k = K ∨ k ∈ vE.ownBlock.toList ∨ k ∈ Q := by
  unfold RelH
  simp only [List.mem_append, List.mem_cons, Bool.exists_bool]
  constructor
  · rintro (h | h | h | h | h | h)
    · exact .inl (.inr h)
    · exact .inl (.inl h)
    · exact .inr (.inl h)
    · exact .inr (.inr (.inl h))
    · exact .inr (.inr (.inr (.inl h)))
    · exact .inr (.inr (.inr (.inr h)))
  · rintro ((h | h) | h | h | h | h)
    · exact .inr (.inl h)
    · exact .inl h
    · exact .inr (.inr (.inl h))
    · exact .inr (.inr (.inr (.inl h)))
    · exact .inr (.inr (.inr (.inr (.inl h))))
    · exact .inr (.inr (.inr (.inr (.inr h))))

theorem row_keeps {w w' : World} {X : List Nat} {base sz : Nat} {E : TypeId} {v : Value} {n : Nat} {zs : List Value} (h : w.ownsRow base E sz v n zs) (hk : Keeps X w w') (hd : ∀ k, k ∈ v.ownBlock.toList → k ∉ X) : w'.ownsRow base E sz v n zs := by
  obtain ⟨hl, hn | ⟨g, cap, cur, rfl, hb, hg, rest⟩⟩ := h
  · exact ⟨hl, .inl hn⟩
  · exact ⟨hl, .inr ⟨g, cap, cur, rfl, hb, (hk.block g (Array.getElem?_eq_some_iff.1 hg).1 (hd g (by simp [Value.ownBlock]))).trans hg, rest⟩⟩

theorem row_lt {w : World} {base sz : Nat} {E : TypeId} {v : Value} {n : Nat} {zs : List Value} (h : w.ownsRow base E sz v n zs) : ∀ k, k ∈ v.ownBlock.toList → base ≤ k ∧ k < w.heap.size := by
  intro k hk
  exact h.lt k (by simpa using hk)

section
variable {w w' : World} {R : Nat} {ln : Bool → Nat} {N : Nat} {s : RS} {K : Nat} {Fs : Bool → List Nat} {v : Bool → Value} {vE : Value} {evl : List (Ev × Value)} {Q : List Nat} {col : Nat → Nat}

theorem RelAt.lt (h : RelAt w R ln N s K Fs v vE evl Q col) : ∀ k, k ∈ RelH Fs R K vE Q → k < w.heap.size := by
  intro k hk
  rcases mem_relH.1 hk with ⟨d, hd⟩ | rfl | rfl | hk | hk
  · exact (h.hl d).lt k hd
  · exact (Array.getElem?_eq_some_iff.1 h.hR).1
  · exact (Array.getElem?_eq_some_iff.1 h.hK).1
  · exact (row_lt h.row k hk).2
  · exact h.qlt k hk

theorem RelAt.col0 (h : RelAt w R ln N s K Fs v vE evl Q col) : ∀ k, k ∈ RelH Fs R K vE Q → col k ≠ 0 := by
  intro k hk
  rcases mem_relH.1 hk with ⟨d, hd⟩ | rfl | rfl | hk | hk
  · rw [h.cF d k hd]; cases d <;> simp [lc]
  · rw [h.cR]; simp
  · rw [h.cK]; simp
  · rw [h.cE k hk]; simp
  · rw [h.cQ k hk]; simp

theorem RelAt.zero (h : RelAt w R ln N s K Fs v vE evl Q col) : 0 ∉ RelH Fs R K vE Q := fun hm => h.col0 0 hm h.c0

theorem RelAt.keeps {X : List Nat} (h : RelAt w R ln N s K Fs v vE evl Q col) (hk : Keeps X w w') (hd : ∀ k, k ∈ RelH Fs R K vE Q → k ∉ X) (h0 : 0 ∉ X) : RelAt w' R ln N s K Fs v vE evl Q col :=
  have hq : ∀ k, k ∈ Q → k ∉ X := fun k hk => hd k (mem_relH.2 (.inr (.inr (.inr (.inr hk)))))
  { h with
    hl := fun d => (h.hl d).keeps hk (fun k hk => hd k (mem_relH.2 (.inl ⟨d, hk⟩))) h0
    hR := (hk.block R (Array.getElem?_eq_some_iff.1 h.hR).1 (hd R (mem_relH.2 (.inr (.inl rfl))))).trans h.hR
    hK := (hk.block K (Array.getElem?_eq_some_iff.1 h.hK).1 (hd K (mem_relH.2 (.inr (.inr (.inl rfl)))))).trans h.hK
    hw := fun d => (h.hw d).keeps hk hq
    row := row_keeps h.row hk (fun k hk => hd k (mem_relH.2 (.inr (.inr (.inr (.inl hk))))))
    evd := fun x hx => (h.evd x hx).keeps hk hq
    qlt := fun k hk' => Nat.lt_of_lt_of_le (h.qlt k hk') hk.size }

theorem RelAt.below (h : RelAt w R ln N s K Fs v vE evl Q col) (hb : Below w.heap.size w w') : RelAt w' R ln N s K Fs v vE evl Q col :=
  h.keeps (Keeps.of_below hb []) (fun _ _ h => by cases h) (by simp)

/-- Behind a call on one of its lines. -/
theorem RelAt.line (h : RelAt w R ln N s K Fs v vE evl Q col) (d : Bool) {F' : List Nat} {l' : Line} (hp : IsP w' (ln d) F' N l') (hk : Keeps (Fs d) w w') (hs : ∀ k, k ∈ F' → k ∈ Fs d ∨ w.heap.size ≤ k) :
    RelAt w' R ln N { s with l := upd s.l d l' } K (upd Fs d F') v vE evl Q (fun k => if k < w.heap.size then col k else lc d) := by
  have hlt := h.lt
  have z : 0 < w.heap.size := (h.hl true).oth.pos
  have hq : ∀ k, k ∈ Q → k ∉ Fs d := fun k h1 h2 => by have a := h.cQ k h1; have b := h.cF d k h2; rw [a] at b; cases d <;> simp [lc] at b
  have hne : ∀ e, e ≠ d → ∀ k, k ∈ Fs e → k ∉ Fs d := fun e he k h1 h2 => by have a := h.cF e k h1; have b := h.cF d k h2; rw [a] at b; cases d <;> cases e <;> simp [lc] at b he
  have l1 : ∀ k, k ∈ RelH Fs R K vE Q → (if k < w.heap.size then col k else lc d) = col k := fun k hk => if_pos (hlt k hk)
  have zF : 0 ∉ Fs d := fun hm => by have := h.cF d 0 hm; rw [h.c0] at this; cases d <;> simp [lc] at this
  exact {
    hl := fun e => by
      by_cases he : e = d
      · subst he; rw [upd_same]; simp only [upd_same]; exact hp
      · simp only [upd_ne _ _ he]; exact (h.hl e).keeps hk (hne e he) zF
    hR := (hk.block R (hlt R (mem_relH.2 (.inr (.inl rfl)))) (fun hm => by have a := h.cF d R hm; rw [h.cR] at a; cases d <;> simp [lc] at a)).trans h.hR
    hK := (hk.block K (hlt K (mem_relH.2 (.inr (.inr (.inl rfl))))) (fun hm => by have a := h.cF d K hm; rw [h.cK] at a; cases d <;> simp [lc] at a)).trans h.hK
    hw := fun e => (h.hw e).keeps hk hq
    row := row_keeps h.row hk (fun k h1 h2 => by have a := h.cE k h1; have b := h.cF d k h2; rw [a] at b; cases d <;> simp [lc] at b)
    evq := h.evq
    evd := fun x hx => (h.evd x hx).keeps hk hq
    c0 := by simp only [if_pos z]; exact h.c0
    cF := fun e k hk' => by
      by_cases he : e = d
      · subst he
        rw [upd_same] at hk'
        rcases hs k hk' with h' | h'
        · rw [l1 k (mem_relH.2 (.inl ⟨_, h'⟩))]; exact h.cF _ k h'
        · simp only [if_neg (Nat.not_lt.2 h')]
      · rw [upd_ne _ _ he] at hk'
        rw [l1 k (mem_relH.2 (.inl ⟨_, hk'⟩))]; exact h.cF _ k hk'
    cR := by rw [l1 R (mem_relH.2 (.inr (.inl rfl)))]; exact h.cR
    cK := by rw [l1 K (mem_relH.2 (.inr (.inr (.inl rfl))))]; exact h.cK
    cE := fun k hk => by rw [l1 k (mem_relH.2 (.inr (.inr (.inr (.inl hk)))))]; exact h.cE k hk
    cQ := fun k hk => by rw [l1 k (mem_relH.2 (.inr (.inr (.inr (.inr hk)))))]; exact h.cQ k hk
    qlt := fun k hk' => Nat.lt_of_lt_of_le (h.qlt k hk') hk.size
    len := h.len
    lf := h.lf
    ck := h.ck }

/-- More blocks for bytes. -/
theorem RelAt.more (h : RelAt w R ln N s K Fs v vE evl Q col) (n : Nat) (hn : ∀ k, k ∈ RelH Fs R K vE Q → k < n) (X : List Nat) (hX : ∀ k, k ∈ X → n ≤ k ∧ k < w.heap.size) :
    RelAt w R ln N s K Fs v vE evl (Q ++ X) (fun k => if k < n then col k else 6) := by
  have l1 : ∀ k, k ∈ RelH Fs R K vE Q → (if k < n then col k else 6) = col k := fun k hk => if_pos (hn k hk)
  have z : 0 < n := by have := hn R (mem_relH.2 (.inr (.inl rfl))); omega
  exact { h with
    hw := fun d => (h.hw d).mono (fun k hk => List.mem_append.2 (.inl hk))
    evd := fun x hx => (h.evd x hx).mono (fun k hk => List.mem_append.2 (.inl hk))
    c0 := by simp only [if_pos z]; exact h.c0
    cF := fun d k hk => by rw [l1 k (mem_relH.2 (.inl ⟨_, hk⟩))]; exact h.cF _ k hk
    cR := by rw [l1 R (mem_relH.2 (.inr (.inl rfl)))]; exact h.cR
    cK := by rw [l1 K (mem_relH.2 (.inr (.inr (.inl rfl))))]; exact h.cK
    cE := fun k hk => by rw [l1 k (mem_relH.2 (.inr (.inr (.inr (.inl hk)))))]; exact h.cE k hk
    cQ := fun k hk => by
      rcases List.mem_append.1 hk with hk | hk
      · rw [l1 k (mem_relH.2 (.inr (.inr (.inr (.inr hk)))))]; exact h.cQ k hk
      · simp only [if_neg (Nat.not_lt.2 (hX k hk).1)]
    qlt := fun k hk => by
      rcases List.mem_append.1 hk with hk | hk
      · exact h.qlt k hk
      · exact (hX k hk).2 }

/-- What does not lie in block b (of colour c) is as it was, where b alone is written. -/
theorem RelAt.col_ne (h : RelAt w R ln N s K Fs v vE evl Q col) : (∀ d k, k ∈ Fs d → k ≠ R ∧ k ≠ K) ∧ (∀ k, k ∈ Q → k ≠ R ∧ k ≠ K ∧ k ∉ vE.ownBlock.toList) ∧ (∀ k, k ∈ vE.ownBlock.toList → k ≠ R ∧ k ≠ K) ∧ R ≠ K ∧ R ≠ 0 ∧ K ≠ 0 ∧ (∀ d k, k ∈ Fs d → k ∉ vE.ownBlock.toList) ∧ 0 ∉ vE.ownBlock.toList := by
  refine ⟨fun d k hk => ⟨?_, ?_⟩, fun k hk => ⟨?_, ?_, fun h2 => ?_⟩, fun k hk => ⟨?_, ?_⟩, ?_, ?_, ?_, fun d k hk h2 => ?_, fun h2 => ?_⟩
  · rintro rfl; have a := h.cF d k hk; rw [h.cR] at a; cases d <;> simp [lc] at a
  · rintro rfl; have a := h.cF d k hk; rw [h.cK] at a; cases d <;> simp [lc] at a
  · rintro rfl; have a := h.cQ k hk; rw [h.cR] at a; simp at a
  · rintro rfl; have a := h.cQ k hk; rw [h.cK] at a; simp at a
  · have a := h.cQ k hk; rw [h.cE k h2] at a; simp at a
  · rintro rfl; have a := h.cE k hk; rw [h.cR] at a; simp at a
  · rintro rfl; have a := h.cE k hk; rw [h.cK] at a; simp at a
  · intro e; have a := h.cR; rw [e, h.cK] at a; simp at a
  · intro e; have a := h.cR; rw [e, h.c0] at a; simp at a
  · intro e; have a := h.cK; rw [e, h.c0] at a; simp at a
  · have a := h.cF d k hk; rw [h.cE k h2] at a; cases d <;> simp [lc] at a
  · have a := h.cE 0 h2; rw [h.c0] at a; simp at a

theorem RelAt.clk (h : RelAt w R ln N s K Fs v vE evl Q col) {t' : Int} {ok' : Bool} (hk : Keeps [K] w w') (hK : w'.heap[K]? = some (.cells #[.int .i64 t', .bool ok'] 110 (0, 0))) (hck : ok' = false → t' = 0) :
    RelAt w' R ln N { s with t := t', ok := ok' } K Fs v vE evl Q col := by
  obtain ⟨a1, a2, a3, a4, a5, a6, a7, a8⟩ := h.col_ne
  have hq : ∀ k, k ∈ Q → k ∉ [K] := fun k hk => by simpa using (a2 k hk).2.1
  exact { h with
    hl := fun d => (h.hl d).keeps hk (fun k hk => by simpa using (a1 d k hk).2) (by simpa using a6.symm)
    hR := (hk.block R (Array.getElem?_eq_some_iff.1 h.hR).1 (by simpa using a4)).trans h.hR
    hK := hK
    ck := hck
    hw := fun d => (h.hw d).keeps hk hq
    row := row_keeps h.row hk (fun k hk => by simpa using (a3 k hk).2)
    evd := fun x hx => (h.evd x hx).keeps hk hq
    qlt := fun k hk' => Nat.lt_of_lt_of_le (h.qlt k hk') hk.size }

theorem RelAt.setR (h : RelAt w R ln N s K Fs v vE evl Q col) {v' : Bool → Value} {w2 : Bool → List Int} {o' : Bool → Bool} {left' : Int} (hk : Keeps [R] w w') (hR : w'.heap[R]? = some (.cells (relCells ln v' o' K vE left') 100 (0, 0)))
    (hw : ∀ d, Slc w Q (v' d) (w2 d)) (hl : 0 ≤ left' ∧ left' ≤ 262144) : RelAt w' R ln N { s with w := w2, o := o', left := left' } K Fs v' vE evl Q col := by
  obtain ⟨a1, a2, a3, a4, a5, a6, a7, a8⟩ := h.col_ne
  have hq : ∀ k, k ∈ Q → k ∉ [R] := fun k hk => by simpa using (a2 k hk).1
  exact { h with
    hl := fun d => (h.hl d).keeps hk (fun k hk => by simpa using (a1 d k hk).1) (by simpa using a5.symm)
    hR := hR
    hK := (hk.block K (Array.getElem?_eq_some_iff.1 h.hK).1 (by simpa using a4.symm)).trans h.hK
    hw := fun d => (hw d).keeps hk hq
    row := row_keeps h.row hk (fun k hk => by simpa using (a3 k hk).1)
    evd := fun x hx => (h.evd x hx).keeps hk hq
    qlt := fun k hk' => Nat.lt_of_lt_of_le (h.qlt k hk') hk.size
    lf := hl }

theorem setR_keeps {w : World} {R j : Nat} {x : Value} : Keeps [R] w (w.setCell ⟨R, j, none⟩ x) :=
  ⟨rfl, rfl, rfl, by simp, fun k _ hn => heap_setCell_other _ _ _ _ (fun e => hn (by simp [e]))⟩

theorem RelAt.wait (h : RelAt w R ln N s K Fs v vE evl Q col) (d : Bool) {u : Value} {xs : List Int} (hu : Slc w Q u xs) :
    RelAt (w.setCell ⟨R, if d then 10 else 4, none⟩ u) R ln N { s with w := upd s.w d xs } K Fs (upd v d u) vE evl Q col := by
  refine h.setR (v' := upd v d u) (w2 := upd s.w d xs) (o' := s.o) (left' := s.left) setR_keeps ?_ (fun e => ?_) h.lf
  · have := heap_setCell_same w R (if d then 10 else 4) _ _ u h.hR
    cases d <;> exact this
  · by_cases he : e = d
    · subst he; rw [upd_same, upd_same]; exact hu
    · rw [upd_ne _ _ he, upd_ne _ _ he]; exact h.hw e

theorem RelAt.over (h : RelAt w R ln N s K Fs v vE evl Q col) (d : Bool) :
    RelAt (w.setCell ⟨R, if d then 11 else 5, none⟩ (.bool true)) R ln N { s with o := upd s.o d true } K Fs v vE evl Q col := by
  refine h.setR (v' := v) (w2 := s.w) (o' := upd s.o d true) (left' := s.left) setR_keeps ?_ (fun e => h.hw e) h.lf
  have := heap_setCell_same w R (if d then 11 else 5) _ _ (.bool true) h.hR
  cases d <;> exact this

theorem RelAt.rest (h : RelAt w R ln N s K Fs v vE evl Q col) {x : Int} (hx : 0 ≤ x ∧ x ≤ 262144) :
    RelAt (w.setCell ⟨R, 14, none⟩ (.int .i64 x)) R ln N { s with left := x } K Fs v vE evl Q col :=
  h.setR (v' := v) (w2 := s.w) (o' := s.o) (left' := x) setR_keeps (heap_setCell_same w R 14 _ _ (.int .i64 x) h.hR) (fun e => h.hw e) hx

theorem RelAt.keepK (h : RelAt w R ln N s K Fs v vE evl Q col) (hk : Keeps [K] w w') {u : Value} {xs : List Int} (hs : Slc w Q u xs) : Slc w' Q u xs :=
  hs.keeps hk (fun k hk => by simpa using (h.col_ne.2.1 k hk).2.1)

theorem RelAt.grownR (h : RelAt w R ln N s K Fs v vE evl Q col) (hg : w.grownBy w' vE.ownBlock) : w'.heap[R]? = some (.cells (relCells ln v s.o K vE s.left) 100 (0, 0)) :=
  (hg.block R (Array.getElem?_eq_some_iff.1 h.hR).1 (fun e => (h.col_ne.2.2.1 R (by rw [← e]; simp)).1 rfl)).trans h.hR

/-- A note more. -/
theorem RelAt.note (h : RelAt w R ln N s K Fs v vE evl Q col) {w4 : World} {vE' d : Value} {e : Ev} (hg : w.grownBy w4 vE.ownBlock) (hrow : w4.ownsRow 0 69 3 vE' (s.evs.length + 1) (evCells evl ++ [.int .i64 e.dir, .int .i64 e.time, d]))
    (hat : vE'.ownBlock = vE.ownBlock ∨ ∃ g, vE'.ownBlock = some g ∧ w.heap.size ≤ g) (hd : Slc w Q d e.data) (hlen : s.evs.length + 1 ≤ 4096) :
    ∃ col', RelAt (w4.setCell ⟨R, 13, none⟩ vE') R ln N { s with evs := s.evs ++ [e] } K Fs v vE' (evl ++ [(e, d)]) Q col' := by
  obtain ⟨a1, a2, a3, a4, a5, a6, a7, a8⟩ := h.col_ne
  have hlt := h.lt
  have z : 0 < w.heap.size := (h.hl true).oth.pos
  have hk4 : Keeps vE.ownBlock.toList w w4 := ⟨hg.os, hg.tape, hg.output, hg.size, fun k hk hn => hg.block k hk (fun e => hn (by rw [← e]; simp))⟩
  have hR4 : w4.heap[R]? = some (.cells (relCells ln v s.o K vE s.left) 100 (0, 0)) := (hk4.block R (hlt R (mem_relH.2 (.inr (.inl rfl)))) (fun hm => (a3 R hm).1 rfl)).trans h.hR
  have hRs := heap_setCell_same w4 R 13 _ _ vE' hR4
  have hk5 : Keeps [R] w4 (w4.setCell ⟨R, 13, none⟩ vE') := setR_keeps
  have hRlt := hlt R (mem_relH.2 (.inr (.inl rfl)))
  have hE5 : ∀ k, k ∈ vE'.ownBlock.toList → k ≠ R := by
    intro k hk
    rcases hat with hat | ⟨g, hat, hge⟩
    · rw [hat] at hk; exact (a3 k hk).1
    · rw [hat] at hk
      have : k = g := by simpa using hk
      omega
  have l1 : ∀ k, k ∈ RelH Fs R K vE Q → (if k < w.heap.size then col k else 5) = col k := fun k hk => if_pos (hlt k hk)
  have hq : ∀ k, k ∈ Q → k ∉ vE.ownBlock.toList := fun k hk => (a2 k hk).2.2
  have hq5 : ∀ k, k ∈ Q → k ∉ [R] := fun k hk => by simpa using (a2 k hk).1
  refine ⟨fun k => if k < w.heap.size then col k else 5, { h with
    hl := fun d => ((h.hl d).keeps hk4 (a7 d) a8).keeps hk5 (fun k hk => by simpa using (a1 d k hk).1) (by simpa using a5.symm)
    hR := hRs
    hK := (hk5.block K (Nat.lt_of_lt_of_le (hlt K (mem_relH.2 (.inr (.inr (.inl rfl))))) hg.size) (by simpa using a4.symm)).trans ((hk4.block K (hlt K (mem_relH.2 (.inr (.inr (.inl rfl))))) (fun hm => (a3 K hm).2 rfl)).trans h.hK)
    hw := fun d => ((h.hw d).keeps hk4 hq).keeps hk5 hq5
    row := ?_
    evq := by simp [h.evq]
    evd := ?_
    c0 := by simp only [if_pos z]; exact h.c0
    cF := fun d k hk => by rw [l1 k (mem_relH.2 (.inl ⟨_, hk⟩))]; exact h.cF _ k hk
    cR := by rw [l1 R (mem_relH.2 (.inr (.inl rfl)))]; exact h.cR
    cK := by rw [l1 K (mem_relH.2 (.inr (.inr (.inl rfl))))]; exact h.cK
    cE := ?_
    cQ := fun k hk => by rw [l1 k (mem_relH.2 (.inr (.inr (.inr (.inr hk)))))]; exact h.cQ k hk
    qlt := fun k hk' => by have := h.qlt k hk'; have := hg.size; simp; omega
    len := by simp; omega }⟩
  · rw [List.length_append, evCells_append]
    exact row_keeps hrow hk5 (fun k hk => by simpa using hE5 k hk)
  · intro x hx
    rcases List.mem_append.1 hx with hx | hx
    · exact ((h.evd x hx).keeps hk4 hq).keeps hk5 hq5
    · obtain rfl : x = (e, d) := by simpa using hx
      exact (hd.keeps hk4 hq).keeps hk5 hq5
  · intro k hk
    rcases hat with hat | ⟨g, hat, hge⟩
    · rw [hat] at hk
      rw [l1 k (mem_relH.2 (.inr (.inr (.inr (.inl hk)))))]; exact h.cE k hk
    · rw [hat] at hk
      have : k = g := by simpa using hk
      subst this
      simp only [if_neg (Nat.not_lt.2 hge)]
end

/-- Block R is a relay on two lines; H: all its blocks, and theirs. -/
def Rel (w : World) (R : Nat) (ln : Bool → Nat) (N : Nat) (s : RS) (H : List Nat) : Prop :=
  ∃ K Fs v vE evl Q col, H = RelH Fs R K vE Q ∧ RelAt w R ln N s K Fs v vE evl Q col

section
variable {w w' : World} {R : Nat} {ln : Bool → Nat} {N : Nat} {s : RS} {H : List Nat}

theorem Rel.lt (h : Rel w R ln N s H) : ∀ k, k ∈ H → k < w.heap.size := by
  obtain ⟨K, Fs, v, vE, evl, Q, col, rfl, h⟩ := h
  exact h.lt

theorem Rel.zero (h : Rel w R ln N s H) : 0 ∉ H := by
  obtain ⟨K, Fs, v, vE, evl, Q, col, rfl, h⟩ := h
  exact h.zero

theorem Rel.keeps {X : List Nat} (h : Rel w R ln N s H) (hk : Keeps X w w') (hd : ∀ k, k ∈ H → k ∉ X) (h0 : 0 ∉ X) : Rel w' R ln N s H := by
  obtain ⟨K, Fs, v, vE, evl, Q, col, rfl, h⟩ := h
  exact ⟨K, Fs, v, vE, evl, Q, col, rfl, h.keeps hk hd h0⟩

theorem Rel.below (h : Rel w R ln N s H) (hb : Below w.heap.size w w') : Rel w' R ln N s H :=
  h.keeps (Keeps.of_below hb []) (fun _ _ h => by cases h) (by simp)

/-- One of its lines, and what becomes of the relay where that line alone is written. -/
theorem Rel.line (h : Rel w R ln N s H) (d : Bool) : ∃ F, IsP w (ln d) F N (s.l d) ∧ (∀ k, k ∈ F → k ∈ H) ∧
    ∀ w' F' l', IsP w' (ln d) F' N l' → Keeps F w w' → (∀ k, k ∈ F' → k ∈ F ∨ w.heap.size ≤ k) → ∃ H', Rel w' R ln N { s with l := upd s.l d l' } H' ∧ Keeps H w w' ∧ ∀ k, k ∈ H' → k ∈ H ∨ w.heap.size ≤ k := by
  obtain ⟨K, Fs, v, vE, evl, Q, col, rfl, h⟩ := h
  have hsub : ∀ k, k ∈ Fs d → k ∈ RelH Fs R K vE Q := fun k hk => mem_relH.2 (.inl ⟨d, hk⟩)
  refine ⟨Fs d, h.hl d, hsub, fun w' F' l' hp hk hs => ⟨_, ⟨K, _, v, vE, evl, Q, _, rfl, h.line d hp hk hs⟩, ⟨hk.os, hk.tape, hk.output, hk.size, fun k h1 h2 => hk.block k h1 (fun h3 => h2 (hsub k h3))⟩, fun k hk => ?_⟩⟩
  rcases mem_relH.1 hk with ⟨e, hd⟩ | hk
  · by_cases he : e = d
    · subst he
      rw [upd_same] at hd
      rcases hs k hd with h | h
      · exact .inl (hsub k h)
      · exact .inr h
    · rw [upd_ne _ _ he] at hd
      exact .inl (mem_relH.2 (.inl ⟨e, hd⟩))
  · exact .inl (mem_relH.2 (.inr hk))
end

end Go.Proofs.YthpdphbppapkhaaDoor
