/-
  What holds of the statements' world whatever happens: what was noted lies between what was written and what was read; the notes' form and times. Plain Lean. No condition.
-/
import Derived.Test.YthpdphbppapkhaaDoorAlive7
namespace Go.Proofs.YthpdphbppapkhaaDoor
open qb

theorem Line.set_x (l : Line) (j : Bool) (xs : List Int) (e : Bool) : (l.set j xs e).x j = xs := by cases j <;> rfl
theorem Line.set_x' (l : Line) (j : Bool) (xs : List Int) (e : Bool) : (l.set j xs e).x (!j) = l.x (!j) := by cases j <;> rfl
theorem Line.set_x'' (l : Line) (j : Bool) (xs : List Int) (e : Bool) : (l.set (!j) xs e).x j = l.x j := by cases j <;> rfl
theorem Line.set_e (l : Line) (j : Bool) (xs : List Int) (e : Bool) : (l.set j xs e).e j = e := by cases j <;> rfl
theorem Line.set_e'' (l : Line) (j : Bool) (xs : List Int) (e : Bool) : (l.set (!j) xs e).e j = l.e j := by cases j <;> rfl
theorem Line.set_e' (l : Line) (j : Bool) (xs : List Int) (e : Bool) : (l.set j xs e).e (!j) = l.e (!j) := by cases j <;> rfl

/-- The bytes of a direction's notes. -/
def noted (d : Int) (evs : List Ev) : List Int := evs.flatMap fun e => if e.dir = d then e.data else []
def total (evs : List Ev) : Nat := (evs.map fun e => e.data.length).sum

theorem noted_app (d : Int) (a b : List Ev) : noted d (a ++ b) = noted d a ++ noted d b := by unfold noted; rw [List.flatMap_append]
theorem noted_one (d : Bool) (t : Int) (x : List Int) : noted (sd d) [⟨sd d, t, x⟩] = x := by simp [noted]
theorem noted_other (d : Bool) (t : Int) (x : List Int) : noted (sd (!d)) [⟨sd d, t, x⟩] = [] := by cases d <;> simp [noted, sd]
theorem total_app (a : List Ev) (e : Ev) : total (a ++ [e]) = total a + e.data.length := by simp [total]
theorem noted_le (d : Int) (evs : List Ev) : (noted d evs).length ≤ total evs := by
  induction evs with
  | nil => simp [noted, total]
  | cons e l ih =>
    have h1 : noted d (e :: l) = (if e.dir = d then e.data else []) ++ noted d l := rfl
    have h2 : total (e :: l) = e.data.length + total l := by simp [total]
    rw [h1, h2, List.length_append]
    split <;> simp <;> omega

def Ev.fine (e : Ev) : Prop := 0 < e.data.length ∧ e.data.length ≤ 65536 ∧ (e.dir = 0 ∨ e.dir = 1)

structure Notes (s : RS) : Prop where
  evd : ∀ e, e ∈ s.evs → e.fine
  sum : (total s.evs : Int) + s.left = 262144
  lf : 0 ≤ s.left
  len : s.evs.length ≤ 4096
  ok0 : s.ok = false → s.evs = []
  top : ∀ e, e ∈ s.evs → e.time ≤ s.t
  tim : s.evs.Pairwise fun a b => a.time ≤ b.time

/-- What lies between. -/
structure Ways (S : LS) : Prop where
  gone : ∀ d, noted (sd d) S.s.evs = S.rd d ++ ((S.s.l (!d)).x d ++ S.s.w d)
  come : ∀ d, S.wr d = noted (sd d) S.s.evs ++ (S.s.l d).x d

structure Inv7 (S : LS) : Prop extends Notes S.s, Ways S

theorem readN_le (s : RS) (d : Bool) (n : Int) (h : 0 ≤ s.left) : readN s d n ≤ ((s.l d).x d).length ∧ readN s d n ≤ 65536 ∧ (readN s d n : Int) ≤ s.left := by
  unfold readN count
  omega

theorem Notes.got {s : RS} (h : Notes s) (d : Bool) (n t : Int) (hc : ¬ cannot s d n) (hp : 0 < readN s d n) : Notes (got s d (readN s d n) t) := by
  obtain ⟨h1, h2, h3⟩ := readN_le s d n h.lf
  have hl : (((s.l d).x d).take (readN s d n)).length = readN s d n := by rw [List.length_take]; omega
  have hle : ∀ e, e ∈ s.evs → e.time ≤ seeT s.t s.ok t := by
    intro e he
    have h5 := h.top e he
    unfold seeT
    cases hok : s.ok
    · rw [h.ok0 hok] at he; cases he
    · simp only [Bool.true_eq_false, false_or]
      split <;> omega
  have hlen : s.evs.length < 4096 := by
    have := h.len
    by_cases h4 : s.evs.length = 4096
    · exact absurd (.inr (.inr (.inr (.inr h4)))) hc
    · omega
  refine ⟨?_, ?_, ?_, ?_, fun e => (by cases e), ?_, ?_⟩
  · intro e he
    rcases List.mem_append.1 he with he | he
    · exact h.evd e he
    · obtain rfl := List.mem_singleton.1 he
      exact ⟨by show 0 < (List.take _ _).length; omega, by show (List.take _ _).length ≤ _; omega, by cases d <;> simp [sd]⟩
  · show (total (s.evs ++ [_]) : Int) + (s.left - _) = _
    rw [total_app]
    have := h.sum
    show ((total s.evs + (List.take _ _).length : Nat) : Int) + _ = _
    rw [hl]
    omega
  · show 0 ≤ s.left - _
    omega
  · show (s.evs ++ [_]).length ≤ _
    simp
    omega
  · intro e he
    rcases List.mem_append.1 he with he | he
    · exact hle e he
    · obtain rfl := List.mem_singleton.1 he
      exact Int.le_refl _
  · refine List.pairwise_append.2 ⟨h.tim, List.pairwise_singleton _ _, fun a ha b hb => ?_⟩
    obtain rfl := List.mem_singleton.1 hb
    exact hle a ha

theorem Notes.same {s s' : RS} (h : Notes s) (h1 : s'.evs = s.evs) (h2 : s'.left = s.left) (h3 : s'.t = s.t) (h4 : s'.ok = s.ok) : Notes s' := by
  refine ⟨?_, ?_, ?_, ?_, ?_, ?_, ?_⟩
  · rw [h1]; exact h.evd
  · rw [h1, h2]; exact h.sum
  · rw [h2]; exact h.lf
  · rw [h1]; exact h.len
  · rw [h1, h4]; exact h.ok0
  · rw [h1, h3]; exact h.top
  · rw [h1]; exact h.tim

theorem Notes.step {s : RS} (h : Notes s) (N : Nat) (kind n t : Int) : Notes (stepS N s kind n t).1 := by
  have hread : ∀ d, Notes (readS s d n t).1 := by
    intro d
    unfold readS
    split
    · exact h
    split
    · next h1 h2 => exact h.got d n t h1 h2
    split
    · exact h.same rfl rfl rfl rfl
    · exact h
  unfold stepS
  split
  · exact hread true
  split
  · exact hread false
  split
  · exact h.same rfl rfl rfl rfl
  split
  · exact h.same rfl rfl rfl rfl
  · exact h

theorem upd_nn {α : Type} (f : Bool → α) (d : Bool) (x : α) : upd f (!d) x d = f d := by cases d <;> simp [upd]

theorem two (P : Bool → Prop) (d : Bool) (h1 : P d) (h2 : P (!d)) : ∀ e, P e := by
  intro e
  cases d <;> cases e <;> first | exact h1 | exact h2

theorem Ways.step {S : LS} (h : Ways S) (N : Nat) (kind n t : Int) : Ways { S with s := (stepS N S.s kind n t).1 } := by
  have hgot : ∀ d k, Ways { S with s := got S.s d k t } ∨ 0 < (S.s.w d).length := by
    intro d k
    by_cases hw : 0 < (S.s.w d).length
    · exact .inr hw
    · refine .inl ⟨two _ d ?_ ?_, two _ d ?_ ?_⟩
      · show noted (sd d) (S.s.evs ++ [_]) = S.rd d ++ ((upd S.s.l d _ (!d)).x d ++ upd S.s.w d _ d)
        rw [noted_app, noted_one, h.gone d, upd_other, upd_same]
        have : S.s.w d = [] := List.length_eq_zero_iff.1 (by omega)
        rw [this, List.append_nil, List.append_assoc]
      · show noted (sd (!d)) (S.s.evs ++ [_]) = S.rd (!d) ++ ((upd S.s.l d _ (!(!d))).x (!d) ++ upd S.s.w d _ (!d))
        rw [noted_app, noted_other, List.append_nil, h.gone (!d), upd_other, Bool.not_not, upd_same, Line.set_x']
      · show S.wr d = noted (sd d) (S.s.evs ++ [_]) ++ (upd S.s.l d _ d).x d
        rw [noted_app, noted_one, h.come d, upd_same, Line.set_x, List.append_assoc, List.take_append_drop]
      · show S.wr (!d) = noted (sd (!d)) (S.s.evs ++ [_]) ++ (upd S.s.l d _ (!d)).x (!d)
        rw [noted_app, noted_other, List.append_nil, h.come (!d), upd_other]
  have hhung : ∀ d, Ways { S with s := hung S.s d } := by
    intro d
    refine ⟨two _ d ?_ ?_, two _ d ?_ ?_⟩
    · show noted (sd d) S.s.evs = S.rd d ++ ((upd S.s.l (!d) _ (!d)).x d ++ S.s.w d)
      rw [upd_same, Line.set_x, h.gone d]
    · show noted (sd (!d)) S.s.evs = S.rd (!d) ++ ((upd S.s.l (!d) _ (!(!d))).x (!d) ++ S.s.w (!d))
      rw [upd_other, h.gone (!d)]
    · show S.wr d = noted (sd d) S.s.evs ++ (upd S.s.l (!d) _ d).x d
      rw [upd_nn, h.come d]
    · show S.wr (!d) = noted (sd (!d)) S.s.evs ++ (upd S.s.l (!d) _ (!d)).x (!d)
      rw [upd_same, Line.set_x', h.come (!d)]
  have hread : ∀ d, Ways { S with s := (readS S.s d n t).1 } := by
    intro d
    unfold readS
    split
    · exact h
    split
    · next h1 h2 =>
      rcases hgot d (readN S.s d n) with h | h
      · exact h
      · exact absurd (.inl h) h1
    split
    · exact hhung d
    · exact h
  have hsent : ∀ d j, Ways { S with s := sentAs S.s d j } := by
    intro d j
    refine ⟨two _ d ?_ ?_, two _ d ?_ ?_⟩
    · show noted (sd d) S.s.evs = S.rd d ++ ((upd S.s.l (!d) _ (!d)).x d ++ upd S.s.w d _ d)
      rw [upd_same, Line.set_x, upd_same, h.gone d, List.append_assoc ((S.s.l (!d)).x d), List.take_append_drop]
    · show noted (sd (!d)) S.s.evs = S.rd (!d) ++ ((upd S.s.l (!d) _ (!(!d))).x (!d) ++ upd S.s.w d _ (!d))
      rw [upd_other, upd_other, h.gone (!d)]
    · show S.wr d = noted (sd d) S.s.evs ++ (upd S.s.l (!d) _ d).x d
      rw [upd_nn, h.come d]
    · show S.wr (!d) = noted (sd (!d)) S.s.evs ++ (upd S.s.l (!d) _ (!d)).x (!d)
      rw [upd_same, Line.set_x', h.come (!d)]
  unfold stepS
  split
  · exact hread true
  split
  · exact hread false
  split
  · exact hsent true _
  split
  · exact hsent false _
  · exact h

theorem Ways.wrote {S : LS} (h : Ways S) (u : Bool) (k : Nat) (zs : List Int) : Ways (wroteS S u k zs) := by
  refine ⟨two _ u ?_ ?_, two _ u ?_ ?_⟩
  · show noted (sd u) S.s.evs = S.rd u ++ ((upd S.s.l u _ (!u)).x u ++ S.s.w u)
    rw [upd_other, h.gone u]
  · show noted (sd (!u)) S.s.evs = S.rd (!u) ++ ((upd S.s.l u _ (!(!u))).x (!u) ++ S.s.w (!u))
    rw [Bool.not_not, upd_same, Line.set_x', h.gone (!u), Bool.not_not]
  · show upd S.wr u _ u = noted (sd u) S.s.evs ++ (upd S.s.l u _ u).x u
    rw [upd_same, upd_same, Line.set_x, h.come u, List.append_assoc]
  · show upd S.wr u _ (!u) = noted (sd (!u)) S.s.evs ++ (upd S.s.l u _ (!u)).x (!u)
    rw [upd_other, upd_other, h.come (!u)]

theorem Ways.readd {S : LS} (h : Ways S) (u : Bool) (k : Nat) : Ways (readdS S u k) := by
  refine ⟨two _ u ?_ ?_, two _ u ?_ ?_⟩
  · show noted (sd u) S.s.evs = upd S.rd (!u) _ u ++ ((upd S.s.l u _ (!u)).x u ++ S.s.w u)
    rw [upd_other, upd_nn, h.gone u]
  · show noted (sd (!u)) S.s.evs = upd S.rd (!u) _ (!u) ++ ((upd S.s.l u _ (!(!u))).x (!u) ++ S.s.w (!u))
    rw [Bool.not_not, upd_same, upd_same, Line.set_x, h.gone (!u), Bool.not_not]
    simp [← List.append_assoc]
    rw [List.append_assoc (S.rd (!u)), List.take_append_drop]
  · show S.wr u = noted (sd u) S.s.evs ++ (upd S.s.l u _ u).x u
    rw [upd_same, Line.set_x'', h.come u]
  · show S.wr (!u) = noted (sd (!u)) S.s.evs ++ (upd S.s.l u _ (!u)).x (!u)
    rw [upd_other, h.come (!u)]

theorem Ways.hung {S : LS} (h : Ways S) (u : Bool) : Ways (hangS S u) := by
  refine ⟨two _ u ?_ ?_, two _ u ?_ ?_⟩
  · show noted (sd u) S.s.evs = S.rd u ++ ((upd S.s.l u _ (!u)).x u ++ S.s.w u)
    rw [upd_other, h.gone u]
  · show noted (sd (!u)) S.s.evs = S.rd (!u) ++ ((upd S.s.l u _ (!(!u))).x (!u) ++ S.s.w (!u))
    rw [Bool.not_not, upd_same, Line.set_x', h.gone (!u), Bool.not_not]
  · show S.wr u = noted (sd u) S.s.evs ++ (upd S.s.l u _ u).x u
    rw [upd_same, Line.set_x, h.come u]
  · show S.wr (!u) = noted (sd (!u)) S.s.evs ++ (upd S.s.l u _ (!u)).x (!u)
    rw [upd_other, h.come (!u)]

theorem Inv7.new : Inv7 ls0 := by
  refine ⟨⟨fun e he => (by cases he), by decide, by decide, by decide, fun _ => rfl, fun e he => (by cases he), List.Pairwise.nil⟩, ⟨fun d => ?_, fun d => ?_⟩⟩ <;> cases d <;> rfl

theorem Inv7.doS {S : LS} (h : Inv7 S) (N : Nat) (a : Act) : Inv7 (doS N S a).1 := by
  unfold YthpdphbppapkhaaDoor.doS
  have hw := h.toWays
  have hn := h.toNotes
  split
  · exact ⟨hn.same rfl rfl rfl rfl, hw.wrote _ _ _⟩
  split
  · exact ⟨hn.same rfl rfl rfl rfl, hw.readd _ _⟩
  split
  · exact ⟨hn.same rfl rfl rfl rfl, hw.hung _⟩
  split
  · exact ⟨hn.same rfl rfl rfl rfl, hw.wrote _ _ _⟩
  split
  · exact ⟨hn.same rfl rfl rfl rfl, hw.readd _ _⟩
  split
  · exact ⟨hn.same rfl rfl rfl rfl, hw.hung _⟩
  · exact ⟨hn.step N _ _ _, hw.step N _ _ _⟩

/-- How much was written. -/
theorem wr_grow (N : Nat) (S : LS) (a : Act) (d : Bool) : ((YthpdphbppapkhaaDoor.doS N S a).1.wr d).length ≤ (S.wr d).length + a.l.length := by
  have h : ∀ u k, ((wroteS S u k a.l).wr d).length ≤ (S.wr d).length + a.l.length := by
    intro u k
    show (upd S.wr u _ d).length ≤ _
    unfold upd
    split
    · next e => rw [e, List.length_append, List.length_take]; omega
    · omega
  unfold YthpdphbppapkhaaDoor.doS
  split
  · exact h _ _
  split
  · exact Nat.le_add_right _ _
  split
  · exact Nat.le_add_right _ _
  split
  · exact h _ _
  split
  · exact Nat.le_add_right _ _
  split
  · exact Nat.le_add_right _ _
  · exact Nat.le_add_right _ _

theorem Ways.rd_le {S : LS} (h : Ways S) (d : Bool) : (S.rd d).length ≤ (S.wr d).length := by
  rw [h.come d, h.gone d]
  simp

/-- Behind some acts. -/
def runS (N : Nat) (S : LS) : List Act → LS
  | [] => S
  | a :: l => runS N (doS N S a).1 l

theorem runS_app (N : Nat) (S : LS) (l : List Act) (a : Act) : runS N S (l ++ [a]) = (doS N (runS N S l) a).1 := by
  induction l generalizing S with
  | nil => rfl
  | cons b l ih => exact ih _

theorem runS_inv {S : LS} (h : Inv7 S) (N : Nat) (l : List Act) : Inv7 (runS N S l) := by
  induction l generalizing S with
  | nil => exact h
  | cons b l ih => exact ih (h.doS N b)

theorem runS_wr (N : Nat) (l : List Act) (hl : ∀ a, a ∈ l → a.l.length ≤ 100) (d : Bool) : ∀ S : LS, ((runS N S l).wr d).length ≤ (S.wr d).length + 100 * l.length := by
  induction l with
  | nil => intro S; exact Nat.le_add_right _ _
  | cons b l ih =>
    intro S
    have h1 := ih (fun a ha => hl a (List.mem_cons_of_mem _ ha)) (doS N S b).1
    have h2 := wr_grow N S b d
    have h3 := hl b List.mem_cons_self
    show ((runS N _ l).wr d).length ≤ _
    simp only [List.length_cons]
    omega

end Go.Proofs.YthpdphbppapkhaaDoor
