/-
  The statements' world in RelayEnds, call by call. Condition: what was read so far takes at most 100000 bytes.
-/
import Derived.Test.YthpdphbppapkhaaDoorEnds7
namespace Go.Proofs.YthpdphbppapkhaaDoor
open Go.RowKit qb

/-- As it lies in memory: what was written is not noted. -/
def mem (G : LS) : LS := { G with wr := fun _ => [] }

def Play (w wr : World) (Wd R : Nat) (ln : Bool → Nat) (G : LS) (v9 v10 : Value) (a b : List Int) : Prop :=
  ∃ H Qa Qb, LW wr Wd R ln 8 (mem G) H ∧ Below w.heap.size w wr ∧ (∀ k, k ∈ H → w.heap.size ≤ k) ∧ w.heap.size ≤ wr.heap.size ∧ Slc w Qa v9 a ∧ Slc w Qb v10 b ∧ (∀ k, k ∈ Qa → k < w.heap.size) ∧ (∀ k, k ∈ Qb → k < w.heap.size)

section
variable {w wr W1 : World} {Wd R : Nat} {ln : Bool → Nat} {G : LS} {v9 v10 : Value} {a b : List Int}

theorem Play.on (h : Play w wr Wd R ln G v9 v10 a b) (hb : Below wr.heap.size wr W1) : Play w W1 Wd R ln G v9 v10 a b := by
  obtain ⟨H, Qa, Qb, h1, h2, h3, h4, h5⟩ := h
  exact ⟨H, Qa, Qb, h1.below hb, h2.trans (hb.mono h4), h3, Nat.le_trans h4 hb.size, h5⟩

theorem Play.bel (h : Play w wr Wd R ln G v9 v10 a b) : Below w.heap.size w wr := by
  obtain ⟨H, Qa, Qb, h1, h2, _⟩ := h
  exact h2

theorem Play.lw (h : Play w wr Wd R ln G v9 v10 a b) : ∃ H, LW wr Wd R ln 8 (mem G) H := by
  obtain ⟨H, Qa, Qb, h1, h2, _⟩ := h
  exact ⟨H, h1⟩

theorem Play.cells (h : Play w wr Wd R ln G v9 v10 a b) (j : Nat) : wr.cell? ⟨Wd, j, none⟩ = (lwCells ln R (mem G))[j]? := by
  obtain ⟨H, h1⟩ := h.lw
  exact h1.cells j

theorem Play.form9 (h : Play w wr Wd R ln G v9 v10 a b) : ∃ p c, v9 = .slice p a.length c ∧ a.length ≤ c ∧ c ≤ maxLen := by
  obtain ⟨H, Qa, Qb, _, _, _, _, h5, _⟩ := h
  exact h5.form

theorem Play.form10 (h : Play w wr Wd R ln G v9 v10 a b) : ∃ p c, v10 = .slice p b.length c ∧ b.length ≤ c ∧ c ≤ maxLen := by
  obtain ⟨H, Qa, Qb, _, _, _, _, _, h5, _⟩ := h
  exact h5.form

theorem Play.went {G' : LS} (h : Play w wr Wd R ln G v9 v10 a b) {w' : World} (hw : ∀ H, LW wr Wd R ln 8 (mem G) H → Went wr Wd R ln 8 H (mem G') w') : Play w w' Wd R ln G' v9 v10 a b := by
  obtain ⟨H, Qa, Qb, h1, h2, h3, h4, h5⟩ := h
  obtain ⟨H', g1, g2, g3, g4⟩ := (hw H h1).fresh h2 h4 h3
  exact ⟨H', Qa, Qb, g1, g2, g3, g4, h5⟩

theorem play_went {G' : LS} (h : Play w wr Wd R ln G v9 v10 a b) {H : List Nat} (h1 : LW wr Wd R ln 8 (mem G) H) (hH : ∀ k, k ∈ H → w.heap.size ≤ k) {w' : World} (hw : Went wr Wd R ln 8 H (mem G') w') : Play w w' Wd R ln G' v9 v10 a b := by
  obtain ⟨_, Qa, Qb, _, h2, _, h4, h5⟩ := h
  obtain ⟨H', g1, g2, g3, g4⟩ := hw.fresh h2 h4 hH
  exact ⟨H', Qa, Qb, g1, g2, g3, g4, h5⟩

theorem Play.put9 {p : Option Addr} {n c : Nat} (h : Play w wr Wd R ln G (.slice p n c) v10 a b) (k m j P : Nat) (hm : min n k = m) (hj : putN G true a k = j) (hP : ln true = P) :
    Calls Tryd.prog 16 #[.pointer (some ⟨P, 0, none⟩), .int .i64 0, .slice p m c] wr fun e w' => e = .returned (.int .i64 j) ∧ Play w w' Wd R ln (putS G true a k) (.slice p n c) v10 a b := by
  subst hP
  have hh := h
  obtain ⟨H, Qa, Qb, h1, h2, h3, h4, h5, h6, h7, h8⟩ := h
  have hn : a.length = n := by obtain ⟨p', c', e, _⟩ := h5.form; cases e; rfl
  have hs := (h5.below h2).cut (k := m) (by omega)
  refine (lw_write h1 true 0 rfl p m c (a.take m) Qa hs (fun k hk hm => by have := h7 k hk; have := h3 k hm; omega) j (by rw [← hj, ← hm, ← hn]; rfl)).mono ?_
  rintro e w' ⟨rfl, hw⟩
  refine ⟨rfl, play_went hh h1 h3 ?_⟩
  have e : mem (putS G true a k) = lined (mem G) true ((G.s.l true).set true ((G.s.l true).x true ++ (a.take m).take j) ((G.s.l true).e true)) := by
    rw [← hj, ← hm, ← hn]; rfl
  rw [e]
  exact hw

theorem Play.put10 {p : Option Addr} {n c : Nat} (h : Play w wr Wd R ln G v9 (.slice p n c) a b) (k m j P : Nat) (hm : min n k = m) (hj : putN G false b k = j) (hP : ln false = P) :
    Calls Tryd.prog 16 #[.pointer (some ⟨P, 0, none⟩), .int .i64 1, .slice p m c] wr fun e w' => e = .returned (.int .i64 j) ∧ Play w w' Wd R ln (putS G false b k) v9 (.slice p n c) a b := by
  subst hP
  have hh := h
  obtain ⟨H, Qa, Qb, h1, h2, h3, h4, h5, h6, h7, h8⟩ := h
  have hn : b.length = n := by obtain ⟨p', c', e, _⟩ := h6.form; cases e; rfl
  have hs := (h6.below h2).cut (k := m) (by omega)
  refine (lw_write h1 false 1 rfl p m c (b.take m) Qb hs (fun k hk hm => by have := h8 k hk; have := h3 k hm; omega) j (by rw [← hj, ← hm, ← hn]; rfl)).mono ?_
  rintro e w' ⟨rfl, hw⟩
  refine ⟨rfl, play_went hh h1 h3 ?_⟩
  have e : mem (putS G false b k) = lined (mem G) false ((G.s.l false).set false ((G.s.l false).x false ++ (b.take m).take j) ((G.s.l false).e false)) := by
    rw [← hj, ← hm, ← hn]; rfl
  rw [e]
  exact hw

theorem Play.drop9 {p : Option Addr} {n c : Nat} (h : Play w wr Wd R ln G (.slice p n c) v10 a b) {j : Nat} (hj : j ≤ n) : Play w wr Wd R ln G (.slice (from_ p c j) (n - j) (c - j)) v10 (a.drop j) b := by
  obtain ⟨H, Qa, Qb, h1, h2, h3, h4, h5, h6⟩ := h
  exact ⟨H, Qa, Qb, h1, h2, h3, h4, h5.drop hj, h6⟩

theorem Play.drop10 {p : Option Addr} {n c : Nat} (h : Play w wr Wd R ln G v9 (.slice p n c) a b) {j : Nat} (hj : j ≤ n) : Play w wr Wd R ln G v9 (.slice (from_ p c j) (n - j) (c - j)) a (b.drop j) := by
  obtain ⟨H, Qa, Qb, h1, h2, h3, h4, h5, h6, h7⟩ := h
  exact ⟨H, Qa, Qb, h1, h2, h3, h4, h5, h6.drop hj, h7⟩

theorem Play.hang (h : Play w wr Wd R ln G v9 v10 a b) (u : Bool) (side : Int) (hs : sd (!u) = side) (P : Nat) (hP : ln u = P) :
    Calls Tryd.prog 18 #[.pointer (some ⟨P, 0, none⟩), .int .i64 side] wr fun e w' => e = .returned (.tuple #[]) ∧ Play w w' Wd R ln (hangS G u) v9 v10 a b := by
  subst hP
  have hh := h
  obtain ⟨H, Qa, Qb, h1, h2, h3, h4, h5⟩ := h
  refine (lw_hang h1 u u side hs).mono ?_
  rintro e w' ⟨rfl, hw⟩
  exact ⟨rfl, play_went hh h1 h3 hw⟩

theorem Play.step (h : Play w wr Wd R ln G v9 v10 a b) (kd n t : Int) :
    Calls Tryd.prog 38 #[.pointer (some ⟨R, 0, none⟩), .int .i64 kd, .int .i64 n, .int .i64 t] wr fun e w' => e = .returned (.bool (stepS 8 G.s kd n t).2) ∧ Play w w' Wd R ln (ran G (stepS 8 G.s kd n t).1) v9 v10 a b := by
  have hh := h
  obtain ⟨H, Qa, Qb, h1, h2, h3, h4, h5⟩ := h
  refine (lw_step h1 kd n t).mono ?_
  rintro e w' ⟨rfl, hw⟩
  exact ⟨rfl, play_went hh h1 h3 hw⟩

theorem Play.over (h : Play w wr Wd R ln G v9 v10 a b) (o : Bool) (ho : overS G = o) (P : Nat) (hP : ln false = P) :
    Calls Tryd.prog 19 #[.pointer (some ⟨P, 0, none⟩), .int .i64 1] wr fun e w' => e = .returned (.bool o) ∧ wr = w' := by
  subst hP
  obtain ⟨H, h1⟩ := h.lw
  exact lw_over h1 false true 1 rfl o ho

theorem Play.give (h : Play w wr Wd R ln G v9 v10 a b) (hrd : ∀ d, (G.rd d).length ≤ 100000) (kd : Int) (k : Int) (u : Bool) (hkd : kd = if u then 5 else 8) :
    Calls Tryd.prog 31 #[.pointer (some ⟨Wd, 0, none⟩), .agg #[.int .i64 kd, .int .i64 k, .int .i64 0, .slice none 0 0]] wr fun e w' => e = .returned (.bool false) ∧ Play w w' Wd R ln (readdS G u (count k ((G.s.l u).x (!u)).length)) v9 v10 a b := by
  have hh := h
  obtain ⟨H, Qa, Qb, h1, h2, h3, h4, h5⟩ := h
  refine (lw_do h1 ⟨kd, k, 0, []⟩ none 0 0 [] (Slc.nil _ _) (fun _ h => by cases h) (by omega) (fun d => Nat.zero_le _) hrd).mono ?_
  rintro e w' ⟨he, hw⟩
  have hd : doS 8 (mem G) ⟨kd, k, 0, []⟩ = (mem (readdS G u (count k ((G.s.l u).x (!u)).length)), false) := by
    cases u
    · simp only [Bool.false_eq_true, if_false] at hkd; subst hkd; rfl
    · simp only [if_true] at hkd; subst hkd; rfl
  rw [hd] at he hw
  exact ⟨he, play_went hh h1 h3 hw⟩
end

theorem rounds_rd (k : Nat) {X : GS} {sa sb : List Int} (h : Bun X sa sb) (h1 : sa.length ≤ 200) (h0 : sb.length ≤ 200) (d : Bool) : (X.G.rd d).length ≤ 200 := by
  have h2 := h.inv.toWays.rd_le d
  obtain ⟨h3, h4⟩ := h.lens h1 h0
  cases d <;> omega

theorem kind_other (k : Nat) (b0 : Bool) (j : Nat) (G : LS) (h : j ≠ 1 ∨ (b0 && overS G) = false) : kindS k b0 j G = ran G (stepS 8 G.s j k j).1 := by
  unfold kindS
  have : (decide (j = 1) && (b0 && overS G)) = false := by
    rcases h with h | h
    · rw [decide_eq_false h]; rfl
    · rw [h, Bool.and_false]
  rw [this]
  rfl

theorem kind_one (k : Nat) (b0 : Bool) (j : Nat) (G : LS) (h : j = 1) (h2 : (b0 && overS G) = true) : kindS k b0 j G = ran (hangS G false) (stepS 8 (hangS G false).s j k j).1 := by
  unfold kindS
  rw [decide_eq_true h, h2]
  rfl

end Go.Proofs.YthpdphbppapkhaaDoor
