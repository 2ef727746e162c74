/-
  With enough rounds all goes through: plain Lean, no program in sight. Condition: at most 200 bytes each way, at least one a step.
-/
import Derived.Test.YthpdphbppapkhaaDoorRun7
namespace Go.Proofs.YthpdphbppapkhaaDoor
open qb

/-! ### one way, in lengths -/
structure Dir where
  a : Nat
  u : Nat
  w : Nat
  c : Nat
  r : Nat
  ue : Bool
  o : Bool
  ce : Bool

def Dir.put (D : Dir) (k : Nat) : Dir := { D with a := D.a - took (min D.a k) D.u 8 D.ue, u := D.u + took (min D.a k) D.u 8 D.ue }
def Dir.hang (D : Dir) (h : Bool) : Dir := { D with ue := D.ue || h }
def Dir.read (D : Dir) (z : Bool) (k : Nat) : Dir :=
  if 0 < D.w ∨ D.o = true ∨ z = true then D else if 0 < min k D.u then { D with u := D.u - min k D.u, w := min k D.u } else if D.ue = true ∧ D.u = 0 then { D with o := true, ce := true } else D
def Dir.send (D : Dir) (k : Nat) : Dir := { D with w := D.w - took (min k D.w) D.c 8 D.ce, c := D.c + took (min k D.w) D.c 8 D.ce }
def Dir.take (D : Dir) (k : Nat) : Dir := { D with c := D.c - min k D.c, r := D.r + min k D.c }
def Dir.t (D : Dir) : Nat := D.a + D.u + D.w + D.c + D.r

def Dir.fine (D : Dir) : Prop := (D.ue = true → D.a = 0) ∧ (D.o = true → D.ue = true ∧ D.u = 0 ∧ D.w = 0) ∧ D.ce = D.o

set_option maxHeartbeats 4000000 in
theorem dir_ok (D : Dir) (h z : Bool) (k : Nat) (hk : 1 ≤ k) (hf : D.fine) (hh : h = true → (D.put k).a = 0) (hz : z = true → D.o = true) :
    let M := ((D.put k).hang h).read z k
    let E := (M.send k).take k
    E.fine ∧ E.t = D.t ∧ min (D.r + 1) D.t ≤ E.r ∧ E.ce = M.ce ∧ E.o = M.o ∧ (D.o = true → E.o = true) ∧ (D.r = D.t → h = true → M.ce = true ∧ M.c = 0) ∧ (E.ue = true → D.ue = true ∨ h = true) := by
  obtain ⟨a, u, w, c, r, ue, o, ce⟩ := D
  obtain ⟨f1, f2, f3⟩ := hf
  dsimp only at f1 f2 f3
  subst f3
  simp only [Dir.put, Dir.hang, Dir.read, Dir.send, Dir.take, Dir.t, Dir.fine, took] at *
  cases ue <;> cases ce <;> cases h <;> cases z <;> simp at f1 f2 hh hz ⊢
  all_goals try omega
  all_goals (split <;> (try split) <;> (try split) <;> simp at * <;> omega)

def roundD (k : Nat) (X : Dir × Dir) : Dir × Dir :=
  let p1 := X.1.put k
  let m1 := (p1.hang (decide (p1.a = 0))).read X.2.o k
  let p0 := X.2.put k
  let m0 := (p0.hang (decide (p0.a = 0) && (m1.ce && decide (m1.c = 0)))).read X.2.o k
  ((m1.send k).take k, (m0.send k).take k)

structure Good (X : Dir × Dir) : Prop where
  f1 : X.1.fine
  f0 : X.2.fine
  x : X.2.ue = true → X.1.o = true

theorem Dir.put_o (D : Dir) (k : Nat) (h : Bool) : ((D.put k).hang h).o = D.o := rfl

theorem round_ok (k : Nat) (hk : 1 ≤ k) (X : Dir × Dir) (g : Good X) :
    Good (roundD k X) ∧ (roundD k X).1.t = X.1.t ∧ (roundD k X).2.t = X.2.t ∧ min (X.1.r + 1) X.1.t ≤ (roundD k X).1.r ∧ min (X.2.r + 1) X.2.t ≤ (roundD k X).2.r ∧
      (X.1.o = true ∧ X.2.o = true ∨ X.1.r = X.1.t ∧ X.2.r = X.2.t → (roundD k X).1.o = true ∧ (roundD k X).2.o = true) := by
  obtain ⟨f1, f0, x⟩ := g
  have hz : X.2.o = true → X.1.o = true := fun h => x (f0.2.1 h).1
  have h1 := dir_ok X.1 (decide ((X.1.put k).a = 0)) X.2.o k hk f1 (fun h => of_decide_eq_true h) hz
  obtain ⟨a1, a2, a3, a4, a5, a6, a7, a8⟩ := h1
  have h0 := dir_ok X.2 (decide ((X.2.put k).a = 0) && ((((X.1.put k).hang (decide ((X.1.put k).a = 0))).read X.2.o k).ce && decide ((((X.1.put k).hang (decide ((X.1.put k).a = 0))).read X.2.o k).c = 0))) X.2.o k hk f0 (fun h => by simp at h; exact h.1) id
  obtain ⟨b1, b2, b3, b4, b5, b6, b7, b8⟩ := h0
  refine ⟨⟨a1, b1, fun h => ?_⟩, a2, b2, a3, b3, fun h => ?_⟩
  · rcases b8 h with h | h
    · exact a6 (x h)
    · simp at h
      have := a1.2.2
      rw [a4, h.2.1] at this
      exact this.symm
  · rcases h with ⟨h, h'⟩ | ⟨h, h'⟩
    · exact ⟨a6 h, b6 h'⟩
    · have z1 : X.1.a = 0 := by unfold Dir.t at h; omega
      have z0 : X.2.a = 0 := by unfold Dir.t at h'; omega
      have p1 : (X.1.put k).a = 0 := by show X.1.a - _ = 0; omega
      have p0 : (X.2.put k).a = 0 := by show X.2.a - _ = 0; omega
      obtain ⟨c1, c2⟩ := a7 h (decide_eq_true p1)
      obtain ⟨d1, d2⟩ := b7 h' (by rw [c1, decide_eq_true p0, decide_eq_true c2]; rfl)
      refine ⟨?_, ?_⟩
      · have := a1.2.2
        rw [a4, c1] at this
        exact this.symm
      · have := b1.2.2
        rw [b4, d1] at this
        exact this.symm

def runD (k : Nat) : Nat → Dir × Dir → Dir × Dir
  | 0, X => X
  | n + 1, X => roundD k (runD k n X)

theorem run_ok (k : Nat) (hk : 1 ≤ k) (X : Dir × Dir) (g : Good X) (n : Nat) :
    Good (runD k n X) ∧ (runD k n X).1.t = X.1.t ∧ (runD k n X).2.t = X.2.t ∧ min n X.1.t ≤ (runD k n X).1.r ∧ min n X.2.t ≤ (runD k n X).2.r ∧ (X.1.t < n → X.2.t < n → (runD k n X).1.o = true ∧ (runD k n X).2.o = true) := by
  induction n with
  | zero => exact ⟨g, rfl, rfl, by omega, by omega, fun h => by omega⟩
  | succ n ih =>
    obtain ⟨i1, i2, i3, i4, i5, i6⟩ := ih
    obtain ⟨j1, j2, j3, j4, j5, j6⟩ := round_ok k hk _ i1
    have t1 : (runD k n X).1.r ≤ (runD k n X).1.t := by unfold Dir.t; omega
    have t0 : (runD k n X).2.r ≤ (runD k n X).2.t := by unfold Dir.t; omega
    refine ⟨j1, j2.trans i2, j3.trans i3, ?_, ?_, fun h1 h2 => j6 ?_⟩
    · show min (n + 1) _ ≤ (roundD k _).1.r
      omega
    · show min (n + 1) _ ≤ (roundD k _).2.r
      omega
    · exact .inr ⟨by omega, by omega⟩

/-- At the end. -/
theorem ended (k : Nat) (hk : 1 ≤ k) (X : Dir × Dir) (g : Good X) (h1 : X.1.t ≤ 200) (h0 : X.2.t ≤ 200) (n : Nat) (hn : 201 ≤ n) :
    let Y := runD k n X
    (Y.1.a = 0 ∧ Y.1.u = 0 ∧ Y.1.w = 0 ∧ Y.1.c = 0 ∧ Y.1.o = true) ∧ Y.2.a = 0 ∧ Y.2.u = 0 ∧ Y.2.w = 0 ∧ Y.2.c = 0 ∧ Y.2.o = true ∧ Y.2.ce = true := by
  obtain ⟨g', t1, t0, r1, r0, o⟩ := run_ok k hk X g n
  obtain ⟨o1, o0⟩ := o (by omega) (by omega)
  have e0 := g'.f0.2.2
  dsimp only
  unfold Dir.t at *
  refine ⟨⟨?_, ?_, ?_, ?_, o1⟩, ?_, ?_, ?_, ?_, o0, by rw [e0, o0]⟩ <;> omega

/-! ### the worlds -/
theorem Line.set_e_o (l : Line) (j : Bool) (xs : List Int) (e : Bool) : (l.set j xs e).e (!j) = l.e (!j) := by cases j <;> rfl
def dirOf (G : LS) (z : List Int) (d : Bool) : Dir :=
  ⟨z.length, ((G.s.l d).x d).length, (G.s.w d).length, ((G.s.l (!d)).x d).length, (G.rd d).length, (G.s.l d).e d, G.s.o d, (G.s.l (!d)).e d⟩

theorem Dir.ext' {D E : Dir} (h1 : D.a = E.a) (h2 : D.u = E.u) (h3 : D.w = E.w) (h4 : D.c = E.c) (h5 : D.r = E.r) (h6 : D.ue = E.ue) (h7 : D.o = E.o) (h8 : D.ce = E.ce) : D = E := by
  cases D; cases E; simp_all

def putN (G : LS) (u : Bool) (z : List Int) (k : Nat) : Nat := took (min z.length k) ((G.s.l u).x u).length 8 ((G.s.l u).e u)
def putS (G : LS) (u : Bool) (z : List Int) (k : Nat) : LS := wroteS G u (putN G u z k) (z.take (min z.length k))

theorem dir_put (G : LS) (u : Bool) (z : List Int) (k : Nat) : dirOf (putS G u z k) (z.drop (putN G u z k)) u = (dirOf G z u).put k := by
  have hle : putN G u z k ≤ min z.length k := took_le _ _ _ _
  refine Dir.ext' ?_ ?_ rfl ?_ rfl ?_ rfl ?_
  · show (z.drop _).length = _
    rw [List.length_drop]
    rfl
  · show ((upd G.s.l u _ u).x u).length = ((G.s.l u).x u).length + putN G u z k
    rw [upd_same, Line.set_x, List.length_append, List.length_take, List.length_take]
    omega
  · show ((upd G.s.l u _ (!u)).x u).length = _
    rw [upd_other]
    rfl
  · show (upd G.s.l u _ u).e u = _
    rw [upd_same, Line.set_e]
    rfl
  · show (upd G.s.l u _ (!u)).e u = _
    rw [upd_other]
    rfl

theorem dir_put' (G : LS) (u : Bool) (z y : List Int) (k : Nat) : dirOf (putS G u z k) y (!u) = dirOf G y (!u) := by
  refine Dir.ext' rfl ?_ rfl ?_ rfl ?_ rfl ?_
  · show ((upd G.s.l u _ (!u)).x (!u)).length = _
    rw [upd_other]; rfl
  · show ((upd G.s.l u _ (!(!u))).x (!u)).length = _
    rw [Bool.not_not, upd_same, Line.set_x']
    show _ = ((G.s.l (!(!u))).x (!u)).length
    rw [Bool.not_not]
  · show (upd G.s.l u _ (!u)).e (!u) = _
    rw [upd_other]; rfl
  · show (upd G.s.l u _ (!(!u))).e (!u) = _
    rw [Bool.not_not, upd_same, Line.set_e']
    show _ = (G.s.l (!(!u))).e (!u)
    rw [Bool.not_not]

def hangIf (G : LS) (u h : Bool) : LS := if h then hangS G u else G

theorem dir_hang (G : LS) (u h : Bool) (z : List Int) : dirOf (hangIf G u h) z u = (dirOf G z u).hang h := by
  cases h
  · exact Dir.ext' rfl rfl rfl rfl rfl (by simp [dirOf, Dir.hang, hangIf]) rfl rfl
  refine Dir.ext' rfl ?_ rfl ?_ rfl ?_ rfl ?_
  · show ((upd G.s.l u _ u).x u).length = _
    rw [upd_same, Line.set_x]; rfl
  · show ((upd G.s.l u _ (!u)).x u).length = _
    rw [upd_other]; rfl
  · show (upd G.s.l u _ u).e u = ((G.s.l u).e u || true)
    rw [upd_same, Line.set_e]; simp
  · show (upd G.s.l u _ (!u)).e u = _
    rw [upd_other]; rfl

theorem dir_hang' (G : LS) (u h : Bool) (z : List Int) : dirOf (hangIf G u h) z (!u) = dirOf G z (!u) := by
  cases h
  · rfl
  refine Dir.ext' rfl ?_ rfl ?_ rfl ?_ rfl ?_
  · show ((upd G.s.l u _ (!u)).x (!u)).length = _
    rw [upd_other]; rfl
  · show ((upd G.s.l u _ (!(!u))).x (!u)).length = ((G.s.l (!(!u))).x (!u)).length
    rw [Bool.not_not, upd_same, Line.set_x']
  · show (upd G.s.l u _ (!u)).e (!u) = _
    rw [upd_other]; rfl
  · show (upd G.s.l u _ (!(!u))).e (!u) = (G.s.l (!(!u))).e (!u)
    rw [Bool.not_not, upd_same, Line.set_e']

theorem dir_read (G : LS) (d : Bool) (z : List Int) (k : Nat) (t : Int) (hk : 1 ≤ k) (hk9 : k ≤ 9) (he : G.s.evs.length < 4096) (hl : 9 ≤ G.s.left) :
    dirOf (ran G (readS G.s d k t).1) z d = (dirOf G z d).read (G.s.o false) k := by
  have hn : readN G.s d k = min k ((G.s.l d).x d).length := by unfold readN count; omega
  unfold readS Dir.read
  have hc : cannot G.s d k ↔ (0 < (dirOf G z d).w ∨ (dirOf G z d).o = true ∨ G.s.o false = true) := by
    unfold cannot
    show _ ↔ (0 < (G.s.w d).length ∨ G.s.o d = true ∨ _)
    constructor
    · rintro (h | h | h | h | h)
      · exact .inl h
      · exact .inr (.inl h)
      · exact .inr (.inr h)
      · omega
      · omega
    · rintro (h | h | h)
      · exact .inl h
      · exact .inr (.inl h)
      · exact .inr (.inr (.inl h))
  by_cases h1 : cannot G.s d k
  · rw [if_pos h1, if_pos (hc.1 h1)]
    rfl
  rw [if_neg h1, if_neg (fun h => h1 (hc.2 h)), hn]
  by_cases h2 : 0 < min k ((G.s.l d).x d).length
  · rw [if_pos h2, if_pos (show 0 < min k (dirOf G z d).u from h2)]
    refine Dir.ext' rfl ?_ ?_ ?_ rfl ?_ rfl ?_
    · show ((upd G.s.l d _ d).x d).length = ((G.s.l d).x d).length - min k ((G.s.l d).x d).length
      rw [upd_same, Line.set_x, List.length_drop]
    · show (upd G.s.w d _ d).length = min k ((G.s.l d).x d).length
      rw [upd_same, List.length_take]
      omega
    · show ((upd G.s.l d _ (!d)).x d).length = _
      rw [upd_other]; rfl
    · show (upd G.s.l d _ d).e d = _
      rw [upd_same, Line.set_e]; rfl
    · show (upd G.s.l d _ (!d)).e d = _
      rw [upd_other]; rfl
  rw [if_neg h2, if_neg (show ¬ 0 < min k (dirOf G z d).u from h2)]
  by_cases h3 : isOver G.s d = true
  · have h3' := h3
    unfold isOver at h3'
    simp at h3'
    rw [if_pos h3, if_pos (show (dirOf G z d).ue = true ∧ (dirOf G z d).u = 0 from ⟨h3'.1, by show ((G.s.l d).x d).length = 0; rw [h3'.2]; rfl⟩)]
    refine Dir.ext' rfl ?_ rfl ?_ rfl ?_ ?_ ?_
    · show ((upd G.s.l (!d) _ d).x d).length = _
      rw [upd_nn]; rfl
    · show ((upd G.s.l (!d) _ (!d)).x d).length = _
      rw [upd_same, Line.set_x]; rfl
    · show (upd G.s.l (!d) _ d).e d = _
      rw [upd_nn]; rfl
    · show upd G.s.o d true d = true
      rw [upd_same]
    · show (upd G.s.l (!d) _ (!d)).e d = true
      rw [upd_same, Line.set_e]
  · rw [if_neg h3, if_neg (fun h => h3 (by
      obtain ⟨e1, e2⟩ := h
      unfold isOver
      rw [show (G.s.l d).e d = true from e1, decide_eq_true (show ((G.s.l d).x d).length = 0 from e2)]; rfl))]
    rfl

theorem dir_read' (G : LS) (d : Bool) (z : List Int) (n t : Int) : dirOf (ran G (readS G.s d n t).1) z (!d) = dirOf G z (!d) := by
  unfold readS
  split
  · rfl
  split
  · refine Dir.ext' rfl ?_ ?_ ?_ rfl ?_ rfl ?_
    · show ((upd G.s.l d _ (!d)).x (!d)).length = _
      rw [upd_other]; rfl
    · show (upd G.s.w d _ (!d)).length = _
      rw [upd_other]; rfl
    · show ((upd G.s.l d _ (!(!d))).x (!d)).length = ((G.s.l (!(!d))).x (!d)).length
      rw [Bool.not_not, upd_same, Line.set_x']
    · show (upd G.s.l d _ (!d)).e (!d) = _
      rw [upd_other]; rfl
    · show (upd G.s.l d _ (!(!d))).e (!d) = (G.s.l (!(!d))).e (!d)
      rw [Bool.not_not, upd_same, Line.set_e']
  split
  · refine Dir.ext' rfl ?_ rfl ?_ rfl ?_ ?_ ?_
    · show ((upd G.s.l (!d) _ (!d)).x (!d)).length = _
      rw [upd_same, Line.set_x']; rfl
    · show ((upd G.s.l (!d) _ (!(!d))).x (!d)).length = _
      rw [upd_other]; rfl
    · show (upd G.s.l (!d) _ (!d)).e (!d) = _
      rw [upd_same, Line.set_e_o]; rfl
    · show upd G.s.o d true (!d) = _
      rw [upd_other]; rfl
    · show (upd G.s.l (!d) _ (!(!d))).e (!d) = _
      rw [upd_other]; rfl
  · rfl

theorem dir_send (G : LS) (d : Bool) (z : List Int) (k : Nat) : dirOf (ran G (sent G.s d k 8)) z d = (dirOf G z d).send k := by
  have hc : count k (G.s.w d).length = min k (G.s.w d).length := by unfold count; omega
  have hs : sentN G.s d k 8 = took (min k (G.s.w d).length) ((G.s.l (!d)).x d).length 8 ((G.s.l (!d)).e d) := by unfold sentN; rw [hc]
  have hle : sentN G.s d k 8 ≤ (G.s.w d).length := by rw [hs]; exact Nat.le_trans (took_le _ _ _ _) (Nat.min_le_right _ _)
  refine Dir.ext' rfl ?_ ?_ ?_ rfl ?_ rfl ?_
  · show ((upd G.s.l (!d) _ d).x d).length = _
    rw [upd_nn]; rfl
  · show (upd G.s.w d _ d).length = (G.s.w d).length - took _ _ _ _
    rw [upd_same, List.length_drop, hs]; rfl
  · show ((upd G.s.l (!d) _ (!d)).x d).length = ((G.s.l (!d)).x d).length + took (min k (G.s.w d).length) ((G.s.l (!d)).x d).length 8 ((G.s.l (!d)).e d)
    rw [upd_same, Line.set_x, List.length_append, List.length_take, ← hs]
    omega
  · show (upd G.s.l (!d) _ d).e d = _
    rw [upd_nn]; rfl
  · show (upd G.s.l (!d) _ (!d)).e d = _
    rw [upd_same, Line.set_e]; rfl

theorem dir_send' (G : LS) (d : Bool) (z : List Int) (n : Int) : dirOf (ran G (sent G.s d n 8)) z (!d) = dirOf G z (!d) := by
  refine Dir.ext' rfl ?_ ?_ ?_ rfl ?_ rfl ?_
  · show ((upd G.s.l (!d) _ (!d)).x (!d)).length = _
    rw [upd_same, Line.set_x']; rfl
  · show (upd G.s.w d _ (!d)).length = _
    rw [upd_other]; rfl
  · show ((upd G.s.l (!d) _ (!(!d))).x (!d)).length = _
    rw [upd_other]; rfl
  · show (upd G.s.l (!d) _ (!d)).e (!d) = _
    rw [upd_same, Line.set_e_o]; rfl
  · show (upd G.s.l (!d) _ (!(!d))).e (!d) = _
    rw [upd_other]; rfl

theorem dir_take (G : LS) (d : Bool) (z : List Int) (k : Nat) : dirOf (readdS G (!d) (count k ((G.s.l (!d)).x d).length)) z d = (dirOf G z d).take k := by
  have hc : count k ((G.s.l (!d)).x d).length = min k ((G.s.l (!d)).x d).length := by unfold count; omega
  rw [hc]
  refine Dir.ext' rfl ?_ rfl ?_ ?_ ?_ rfl ?_
  · show ((upd G.s.l (!d) _ d).x d).length = _
    rw [upd_nn]; rfl
  · show ((upd G.s.l (!d) ((G.s.l (!d)).set (!(!d)) _ _) (!d)).x d).length = ((G.s.l (!d)).x d).length - min k _
    rw [upd_same, Bool.not_not, Line.set_x, List.length_drop]; rfl
  · show (upd G.rd (!(!d)) _ d).length = (G.rd d).length + min k ((G.s.l (!d)).x d).length
    rw [Bool.not_not, upd_same, List.length_append, List.length_take]
    omega
  · show (upd G.s.l (!d) _ d).e d = _
    rw [upd_nn]; rfl
  · show (upd G.s.l (!d) ((G.s.l (!d)).set (!(!d)) _ _) (!d)).e d = _
    rw [upd_same, Bool.not_not, Line.set_e]; rfl

theorem dir_take' (G : LS) (d : Bool) (z : List Int) (k : Nat) : dirOf (readdS G (!d) k) z (!d) = dirOf G z (!d) := by
  refine Dir.ext' rfl ?_ rfl ?_ ?_ ?_ rfl ?_
  · show ((upd G.s.l (!d) ((G.s.l (!d)).set (!(!d)) _ _) (!d)).x (!d)).length = _
    rw [upd_same, Bool.not_not, Line.set_x']; rfl
  · show ((upd G.s.l (!d) _ (!(!d))).x (!d)).length = _
    rw [upd_other]; rfl
  · show (upd G.rd (!(!d)) _ (!d)).length = _
    rw [Bool.not_not, upd_other]; rfl
  · show (upd G.s.l (!d) ((G.s.l (!d)).set (!(!d)) _ _) (!d)).e (!d) = _
    rw [upd_same, Bool.not_not, Line.set_e']; rfl
  · show (upd G.s.l (!d) _ (!(!d))).e (!d) = _
    rw [upd_other]; rfl

/-! ### a round -/
def overS (G : LS) : Bool := (G.s.l false).e true && decide (((G.s.l false).x true).length = 0)
def kindS (k : Nat) (b0 : Bool) (j : Nat) (G : LS) : LS :=
  ran (hangIf G false (decide (j = 1) && (b0 && overS G))) (stepS 8 (hangIf G false (decide (j = 1) && (b0 && overS G))).s j k j).1
def kindsS (k : Nat) (b0 : Bool) (G : LS) : Nat → LS
  | 0 => G
  | j + 1 => kindS k b0 j (kindsS k b0 G j)

structure GS where
  G : LS
  a : List Int
  b : List Int

def tookS (k : Nat) (X : GS) : GS :=
  ⟨putS (putS X.G true X.a k) false X.b k, X.a.drop (putN X.G true X.a k), X.b.drop (putN (putS X.G true X.a k) false X.b k)⟩
def hungS (X : GS) : GS := ⟨hangIf X.G true (decide (X.a.length = 0)), X.a, X.b⟩
def wentS (k : Nat) (X : GS) : GS := ⟨kindsS k (decide (X.b.length = 0)) X.G 4, X.a, X.b⟩
def gaveS (k : Nat) (X : GS) : GS :=
  let G5 := readdS X.G true (count k ((X.G.s.l true).x false).length)
  ⟨readdS G5 false (count k ((G5.s.l false).x true).length), X.a, X.b⟩
def roundS (k : Nat) (X : GS) : GS := gaveS k (wentS k (hungS (tookS k X)))
def dirs (X : GS) : Dir × Dir := (dirOf X.G X.a true, dirOf X.G X.b false)

structure Bun (X : GS) (sa sb : List Int) : Prop where
  inv : Inv7 X.G
  ha : sa = X.G.wr true ++ X.a
  hb : sb = X.G.wr false ++ X.b

theorem total_two (evs : List Ev) (h : ∀ e, e ∈ evs → e.fine) : evs.length ≤ total evs ∧ total evs = (noted 1 evs).length + (noted 0 evs).length := by
  induction evs with
  | nil => exact ⟨Nat.le_refl _, rfl⟩
  | cons e l ih =>
    obtain ⟨i1, i2⟩ := ih (fun e he => h e (List.mem_cons_of_mem _ he))
    obtain ⟨f1, f2, f3⟩ := h e List.mem_cons_self
    have h1 : ∀ d, noted d (e :: l) = (if e.dir = d then e.data else []) ++ noted d l := fun d => rfl
    have h2 : total (e :: l) = e.data.length + total l := by simp [total]
    rw [h1, h1, h2, List.length_append, List.length_append, List.length_cons]
    rcases f3 with f3 | f3 <;> rw [f3] <;> simp <;> omega

theorem room_left {G : LS} (h : Inv7 G) (h1 : (G.wr true).length ≤ 200) (h0 : (G.wr false).length ≤ 200) : G.s.evs.length < 4096 ∧ 9 ≤ G.s.left := by
  obtain ⟨t1, t2⟩ := total_two G.s.evs h.evd
  have c1 := congrArg List.length (h.come true)
  have c0 := congrArg List.length (h.come false)
  rw [List.length_append] at c1 c0
  have e1 : noted (sd true) G.s.evs = noted 1 G.s.evs := rfl
  have e0 : noted (sd false) G.s.evs = noted 0 G.s.evs := rfl
  rw [e1] at c1
  rw [e0] at c0
  have := h.sum
  omega

theorem Inv7.put {G : LS} (h : Inv7 G) (u : Bool) (z : List Int) (k : Nat) : Inv7 (putS G u z k) := ⟨h.toNotes.same rfl rfl rfl rfl, h.toWays.wrote _ _ _⟩
theorem Inv7.hangIf {G : LS} (h : Inv7 G) (u c : Bool) : Inv7 (hangIf G u c) := by
  cases c
  · exact h
  · exact ⟨h.toNotes.same rfl rfl rfl rfl, h.toWays.hung _⟩
theorem Inv7.ran {G : LS} (h : Inv7 G) (N : Nat) (kd n t : Int) : Inv7 (ran G (stepS N G.s kd n t).1) := ⟨h.toNotes.step N _ _ _, h.toWays.step N _ _ _⟩
theorem Inv7.readd {G : LS} (h : Inv7 G) (u : Bool) (k : Nat) : Inv7 (readdS G u k) := ⟨h.toNotes.same rfl rfl rfl rfl, h.toWays.readd _ _⟩

theorem putS_wr (G : LS) (u : Bool) (z : List Int) (k : Nat) : (putS G u z k).wr u ++ z.drop (putN G u z k) = G.wr u ++ z := by
  show upd G.wr u _ u ++ _ = _
  have hle : putN G u z k ≤ min z.length k := took_le _ _ _ _
  rw [upd_same, List.append_assoc, List.take_take, Nat.min_eq_left hle, List.take_append_drop]

theorem putS_wr' (G : LS) (u : Bool) (z : List Int) (k : Nat) : (putS G u z k).wr (!u) = G.wr (!u) := by
  show upd G.wr u _ (!u) = _
  rw [upd_other]

theorem hangIf_wr (G : LS) (u h : Bool) : (hangIf G u h).wr = G.wr := by cases h <;> rfl
theorem kindS_wr (k : Nat) (b0 : Bool) (j : Nat) (G : LS) : (kindS k b0 j G).wr = G.wr := hangIf_wr _ _ _
theorem kindsS_wr (k : Nat) (b0 : Bool) (G : LS) (j : Nat) : (kindsS k b0 G j).wr = G.wr := by
  induction j with
  | zero => rfl
  | succ j ih => exact (kindS_wr k b0 j _).trans ih

theorem kindS_inv {G : LS} (h : Inv7 G) (k : Nat) (b0 : Bool) (j : Nat) : Inv7 (kindS k b0 j G) := (h.hangIf _ _).ran 8 j k j
theorem kindsS_inv {G : LS} (h : Inv7 G) (k : Nat) (b0 : Bool) (j : Nat) : Inv7 (kindsS k b0 G j) := by
  induction j with
  | zero => exact h
  | succ j ih => exact kindS_inv ih k b0 j

theorem Bun.took {X : GS} {sa sb : List Int} (h : Bun X sa sb) (k : Nat) : Bun (tookS k X) sa sb := by
  refine ⟨(h.inv.put _ _ _).put _ _ _, ?_, ?_⟩
  · show sa = (putS _ false _ k).wr true ++ X.a.drop (putN X.G true X.a k)
    have e : ∀ z, (putS (putS X.G true X.a k) false z k).wr true = (putS X.G true X.a k).wr true := fun z => putS_wr' _ false z k
    rw [e, putS_wr]
    exact h.ha
  · show sb = (putS _ false _ k).wr false ++ X.b.drop _
    have e : (putS X.G true X.a k).wr false = X.G.wr false := putS_wr' _ true _ k
    rw [putS_wr, e]
    exact h.hb

theorem Bun.hung {X : GS} {sa sb : List Int} (h : Bun X sa sb) : Bun (hungS X) sa sb := by
  refine ⟨h.inv.hangIf _ _, ?_, ?_⟩
  · show sa = (hangIf _ _ _).wr true ++ _
    rw [hangIf_wr]; exact h.ha
  · show sb = (hangIf _ _ _).wr false ++ _
    rw [hangIf_wr]; exact h.hb

theorem Bun.went {X : GS} {sa sb : List Int} (h : Bun X sa sb) (k : Nat) : Bun (wentS k X) sa sb := by
  refine ⟨kindsS_inv h.inv k _ 4, ?_, ?_⟩
  · show sa = (kindsS _ _ _ _).wr true ++ _
    rw [kindsS_wr]; exact h.ha
  · show sb = (kindsS _ _ _ _).wr false ++ _
    rw [kindsS_wr]; exact h.hb

theorem Bun.gave {X : GS} {sa sb : List Int} (h : Bun X sa sb) (k : Nat) : Bun (gaveS k X) sa sb := ⟨(h.inv.readd _ _).readd _ _, h.ha, h.hb⟩

theorem Bun.round {X : GS} {sa sb : List Int} (h : Bun X sa sb) (k : Nat) : Bun (roundS k X) sa sb := ((h.took k).hung.went k).gave k

theorem Bun.lens {X : GS} {sa sb : List Int} (h : Bun X sa sb) (h1 : sa.length ≤ 200) (h0 : sb.length ≤ 200) : (X.G.wr true).length ≤ 200 ∧ (X.G.wr false).length ≤ 200 := by
  have a1 := congrArg List.length h.ha
  have a0 := congrArg List.length h.hb
  rw [List.length_append] at a1 a0
  omega

theorem step0 (s : RS) (n t : Int) : stepS 8 s 0 n t = readS s true n t := rfl
theorem step1 (s : RS) (n t : Int) : stepS 8 s 1 n t = readS s false n t := rfl
theorem step2 (s : RS) (n t : Int) : (stepS 8 s 2 n t).1 = sent s true n 8 := rfl
theorem step3 (s : RS) (n t : Int) : (stepS 8 s 3 n t).1 = sent s false n 8 := rfl

theorem dirs_went (k : Nat) (hk : 1 ≤ k) (hk9 : k ≤ 9) (X : GS) (hi : Inv7 X.G) (h1 : (X.G.wr true).length ≤ 200) (h0 : (X.G.wr false).length ≤ 200) :
    dirs (wentS k X) = (((dirs X).1.read (dirs X).2.o k).send k,
      (((dirs X).2.hang (decide ((dirs X).2.a = 0) && (((dirs X).1.read (dirs X).2.o k).ce && decide (((dirs X).1.read (dirs X).2.o k).c = 0)))).read (dirs X).2.o k).send k) := by
  obtain ⟨G, a, b⟩ := X
  dsimp only at hi h1 h0
  obtain ⟨b0, hb0⟩ : ∃ b0, decide (b.length = 0) = b0 := ⟨_, rfl⟩
  obtain ⟨D1, hD1⟩ : ∃ D, dirOf G a true = D := ⟨_, rfl⟩
  obtain ⟨D0, hD0⟩ : ∃ D, dirOf G b false = D := ⟨_, rfl⟩
  have ha0 : decide (D0.a = 0) = b0 := by rw [← hD0]; exact hb0
  -- behind kind 0
  obtain ⟨l1, l2⟩ := room_left hi h1 h0
  have k0 : kindsS k b0 G 1 = ran G (readS G.s true k 0).1 := rfl
  obtain ⟨G1, hG1⟩ : ∃ G1, kindsS k b0 G 1 = G1 := ⟨_, rfl⟩
  have a1 : dirOf G1 a true = D1.read D0.o k := by
    rw [← hG1, k0, dir_read G true a k 0 hk hk9 l1 l2, hD1, ← hD0]
    rfl
  have a0 : dirOf G1 b false = D0 := by
    rw [← hG1, k0, ← hD0]
    exact dir_read' G true b k 0
  have i1 : Inv7 G1 := by rw [← hG1]; exact kindsS_inv hi k b0 1
  have w1 : G1.wr = G.wr := by rw [← hG1]; exact kindsS_wr k b0 G 1
  -- behind kind 1
  obtain ⟨h, hh⟩ : ∃ h, (b0 && overS G1) = h := ⟨_, rfl⟩
  have k1 : kindsS k b0 G 2 = ran (hangIf G1 false h) (readS (hangIf G1 false h).s false k 1).1 := by
    rw [← hh, ← hG1]; rfl
  have hh' : h = (b0 && ((D1.read D0.o k).ce && decide ((D1.read D0.o k).c = 0))) := by rw [← hh, ← a1]; rfl
  obtain ⟨G1', hG1'⟩ : ∃ G1', hangIf G1 false h = G1' := ⟨_, rfl⟩
  have i1' : Inv7 G1' := by rw [← hG1']; exact i1.hangIf _ _
  have w1' : G1'.wr = G.wr := by rw [← hG1', hangIf_wr, w1]
  obtain ⟨l3, l4⟩ := room_left i1' (by rw [w1']; exact h1) (by rw [w1']; exact h0)
  have c1 : dirOf G1' a true = D1.read D0.o k := by rw [← hG1', ← a1]; exact dir_hang' G1 false h a
  have c0 : dirOf G1' b false = D0.hang h := by rw [← hG1', dir_hang, a0]
  obtain ⟨G2, hG2⟩ : ∃ G2, kindsS k b0 G 2 = G2 := ⟨_, rfl⟩
  rw [hG1', hG2] at k1
  have d1 : dirOf G2 a true = D1.read D0.o k := by
    rw [k1, ← c1]
    exact dir_read' G1' false a k 1
  have d0 : dirOf G2 b false = (D0.hang h).read D0.o k := by
    rw [k1, dir_read G1' false b k 1 hk hk9 l3 l4, c0]
    have : G1'.s.o false = D0.o := by
      have := congrArg Dir.o c0
      exact this
    rw [this]
  -- kinds 2, 3
  have k2 : kindsS k b0 G 3 = ran G2 (sent G2.s true k 8) := by rw [← hG2]; rfl
  obtain ⟨G3, hG3⟩ : ∃ G3, kindsS k b0 G 3 = G3 := ⟨_, rfl⟩
  have k3 : kindsS k b0 G 4 = ran G3 (sent G3.s false k 8) := by rw [← hG3]; rfl
  rw [hG3] at k2
  have e1 : dirOf G3 a true = (D1.read D0.o k).send k := by rw [k2, dir_send, d1]
  have e0 : dirOf G3 b false = (D0.hang h).read D0.o k := by rw [k2, ← d0]; exact dir_send' G2 true b k
  have f1 : dirOf (kindsS k b0 G 4) a true = (D1.read D0.o k).send k := by rw [k3, ← e1]; exact dir_send' G3 false a k
  have f0 : dirOf (kindsS k b0 G 4) b false = ((D0.hang h).read D0.o k).send k := by rw [k3, dir_send, e0]
  show (dirOf (kindsS k (decide (b.length = 0)) G 4) a true, dirOf (kindsS k (decide (b.length = 0)) G 4) b false) = _
  rw [hb0, f1, f0]
  show _ = (((dirOf G a true).read (dirOf G b false).o k).send k, _)
  rw [hh', hD1, hD0, ← ha0]
  show _ = (_, (((dirOf G b false).hang (decide ((dirOf G b false).a = 0) && (((dirOf G a true).read (dirOf G b false).o k).ce && decide (((dirOf G a true).read (dirOf G b false).o k).c = 0)))).read (dirOf G b false).o k).send k)
  rw [hD1, hD0]

theorem dirs_round (k : Nat) (hk : 1 ≤ k) (hk9 : k ≤ 9) (X : GS) {sa sb : List Int} (hb : Bun X sa sb) (h1 : sa.length ≤ 200) (h0 : sb.length ≤ 200) : dirs (roundS k X) = roundD k (dirs X) := by
  have bt := (hb.took k).hung
  obtain ⟨w1, w0⟩ := bt.lens h1 h0
  have hw := dirs_went k hk hk9 _ bt.inv w1 w0
  have t1 : (dirs (tookS k X)).1 = (dirs X).1.put k := by
    show dirOf (putS _ false _ k) _ true = _
    rw [show true = (!false) from rfl, dir_put']
    exact dir_put X.G true X.a k
  have t0 : (dirs (tookS k X)).2 = (dirs X).2.put k := by
    show dirOf (putS (putS X.G true X.a k) false X.b k) (X.b.drop (putN (putS X.G true X.a k) false X.b k)) false = _
    rw [dir_put]
    exact congrArg (fun D => Dir.put D k) (dir_put' X.G true X.a X.b k)
  have u1 : (dirs (hungS (tookS k X))).1 = ((dirs X).1.put k).hang (decide (((dirs X).1.put k).a = 0)) := by
    show dirOf (hangIf _ true _) _ true = _
    rw [dir_hang]
    show (dirs (tookS k X)).1.hang (decide ((dirs (tookS k X)).1.a = 0)) = _
    rw [t1]
  have u0 : (dirs (hungS (tookS k X))).2 = (dirs X).2.put k := by
    show dirOf (hangIf _ true _) _ (!true) = _
    rw [dir_hang']
    exact t0
  rw [u1, u0] at hw
  have g1 : (dirs (gaveS k (wentS k (hungS (tookS k X))))).1 = (dirs (wentS k (hungS (tookS k X)))).1.take k := by
    obtain ⟨Y, hY⟩ : ∃ Y, wentS k (hungS (tookS k X)) = Y := ⟨_, rfl⟩
    rw [hY]
    show dirOf (readdS (readdS Y.G true _) (!true) (count k (((readdS Y.G true _).s.l (!true)).x true).length)) Y.a true = _
    rw [dir_take]
    exact congrArg (fun D => Dir.take D k) (dir_take' Y.G false Y.a _)
  have g0 : (dirs (gaveS k (wentS k (hungS (tookS k X))))).2 = (dirs (wentS k (hungS (tookS k X)))).2.take k := by
    obtain ⟨Y, hY⟩ : ∃ Y, wentS k (hungS (tookS k X)) = Y := ⟨_, rfl⟩
    rw [hY]
    show dirOf (readdS (readdS Y.G true _) (!true) _) Y.b (!true) = _
    rw [dir_take']
    exact dir_take Y.G false Y.b k
  refine Prod.ext ?_ ?_
  · show (dirs (gaveS k _)).1 = _
    rw [g1, hw]
    rfl
  · show (dirs (gaveS k _)).2 = _
    rw [g0, hw]
    rfl

def rounds (k : Nat) (X : GS) : Nat → GS
  | 0 => X
  | n + 1 => roundS k (rounds k X n)

theorem rounds_bun (k : Nat) {X : GS} {sa sb : List Int} (hb : Bun X sa sb) (n : Nat) : Bun (rounds k X n) sa sb := by
  induction n with
  | zero => exact hb
  | succ n ih => exact ih.round k

theorem rounds_dirs (k : Nat) (hk : 1 ≤ k) (hk9 : k ≤ 9) {X : GS} {sa sb : List Int} (hb : Bun X sa sb) (h1 : sa.length ≤ 200) (h0 : sb.length ≤ 200) (n : Nat) : dirs (rounds k X n) = runD k n (dirs X) := by
  induction n with
  | zero => rfl
  | succ n ih =>
    show dirs (roundS k _) = roundD k _
    rw [dirs_round k hk hk9 _ (rounds_bun k hb n) h1 h0, ih]

/-- All goes through. -/
theorem all_through (k : Nat) (hk : 1 ≤ k) (hk9 : k ≤ 9) (sa sb : List Int) (h1 : sa.length ≤ 200) (h0 : sb.length ≤ 200) (n : Nat) (hn : 201 ≤ n) :
    let G := (rounds k ⟨ls0, sa, sb⟩ n).G
    G.rd true = sa ∧ G.rd false = sb ∧ G.s.o false = true ∧ (G.s.w false).length = 0 ∧ (G.s.l true).e false = true ∧ ((G.s.l true).x false).length = 0 := by
  have hb : Bun ⟨ls0, sa, sb⟩ sa sb := ⟨Inv7.new, rfl, rfl⟩
  have hd := rounds_dirs k hk hk9 hb h1 h0 n
  have hg : Good (dirs ⟨ls0, sa, sb⟩) := by
    refine ⟨⟨fun h => (by cases h), fun h => (by cases h), rfl⟩, ⟨fun h => (by cases h), fun h => (by cases h), rfl⟩, fun h => (by cases h)⟩
  have he := ended k hk (dirs ⟨ls0, sa, sb⟩) hg (by show sa.length + 0 + 0 + 0 + 0 ≤ 200; omega) (by show sb.length + 0 + 0 + 0 + 0 ≤ 200; omega) n hn
  rw [← hd] at he
  have hbn := rounds_bun k hb n
  obtain ⟨Y, hY⟩ : ∃ Y, rounds k ⟨ls0, sa, sb⟩ n = Y := ⟨_, rfl⟩
  rw [hY] at he hbn ⊢
  obtain ⟨⟨a1, a2, a3, a4, a5⟩, b1, b2, b3, b4, b5, b6⟩ := he
  have z := fun {l : List Int} (h : l.length = 0) => List.length_eq_zero_iff.1 h
  have e1 := hbn.ha
  have e0 := hbn.hb
  have y1 := hbn.inv.come true
  have y0 := hbn.inv.come false
  have x1 := hbn.inv.gone true
  have x0 := hbn.inv.gone false
  have n1 : Y.a = [] := z a1
  have n2 : (Y.G.s.l true).x true = [] := z a2
  have n3 : Y.G.s.w true = [] := z a3
  have n4 : (Y.G.s.l (!true)).x true = [] := z a4
  have m1 : Y.b = [] := z b1
  have m2 : (Y.G.s.l false).x false = [] := z b2
  have m3 : Y.G.s.w false = [] := z b3
  have m4 : (Y.G.s.l (!false)).x false = [] := z b4
  rw [n1, y1, n2, x1, n3, n4] at e1
  rw [m1, y0, m2, x0, m3, m4] at e0
  simp only [List.append_nil] at e1 e0
  exact ⟨e1.symm, e0.symm, b5, b3, b6, b4⟩

end Go.Proofs.YthpdphbppapkhaaDoor
