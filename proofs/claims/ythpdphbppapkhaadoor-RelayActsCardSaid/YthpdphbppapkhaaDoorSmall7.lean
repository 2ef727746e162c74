/-
  What lies in the relay are bytes, and no more than the room. Plain Lean. Condition: what is written are bytes.
-/
import Derived.Test.YthpdphbppapkhaaDoorPair7
namespace Go.Proofs.YthpdphbppapkhaaDoor
open qb

def OkL (N : Nat) (xs : List Int) : Prop := (∀ z, z ∈ xs → U8 z) ∧ xs.length ≤ N

theorem OkL.take {N : Nat} {xs : List Int} (h : OkL N xs) (k : Nat) : OkL N (xs.take k) := ⟨fun z hz => h.1 z (List.mem_of_mem_take hz), by rw [List.length_take]; have := h.2; omega⟩
theorem OkL.drop {N : Nat} {xs : List Int} (h : OkL N xs) (k : Nat) : OkL N (xs.drop k) := ⟨fun z hz => h.1 z (List.mem_of_mem_drop hz), by rw [List.length_drop]; have := h.2; omega⟩
theorem OkL.app {N : Nat} {xs zs : List Int} (h : OkL N xs) (hz : ∀ z, z ∈ zs → U8 z) (n : Nat) (e : Bool) : OkL N (xs ++ zs.take (took n xs.length N e)) := by
  refine ⟨fun z hz' => ?_, ?_⟩
  · rcases List.mem_append.1 hz' with h1 | h1
    · exact h.1 z h1
    · exact hz z (List.mem_of_mem_take h1)
  · rw [List.length_append, List.length_take]
    have := took_room (m := n) (ended := e) h.2
    omega

structure SmallN (N : Nat) (s : RS) : Prop where
  x : ∀ d j, OkL N ((s.l d).x j)
  w : ∀ d, OkL N (s.w d)

theorem set_ok {N : Nat} {l : Bool → Line} (h : ∀ d j, OkL N ((l d).x j)) (u j : Bool) (xs : List Int) (e : Bool) (hx : OkL N xs) : ∀ d j', OkL N (((upd l u ((l u).set j xs e)) d).x j') := by
  intro d j'
  by_cases hd : d = u
  · subst hd
    rw [upd_same]
    by_cases hj : j' = j
    · subst hj; rw [Line.set_x]; exact hx
    · have : j' = !j := by cases j <;> cases j' <;> simp_all
      rw [this, Line.set_x']; exact h _ _
  · rw [upd_ne _ _ hd]; exact h _ _

theorem upd_ok {N : Nat} {f : Bool → List Int} (h : ∀ d, OkL N (f d)) (u : Bool) (xs : List Int) (hx : OkL N xs) : ∀ d, OkL N (upd f u xs d) := by
  intro d
  by_cases hd : d = u
  · subst hd; rw [upd_same]; exact hx
  · rw [upd_ne _ _ hd]; exact h d

theorem SmallN.step {N : Nat} {s : RS} (h : SmallN N s) (kind n t : Int) : SmallN N (stepS N s kind n t).1 := by
  have hread : ∀ d, SmallN N (readS s d n t).1 := by
    intro d
    unfold readS
    split
    · exact h
    split
    · exact ⟨set_ok h.x d d _ _ ((h.x d d).drop _), upd_ok h.w d _ ((h.x d d).take _)⟩
    split
    · exact ⟨set_ok h.x (!d) d _ _ (h.x _ _), h.w⟩
    · exact h
  have hsent : ∀ d, SmallN N (sent s d n N) := by
    intro d
    exact ⟨set_ok h.x (!d) d _ _ ((h.x (!d) d).app (h.w d).1 _ _), upd_ok h.w d _ ((h.w d).drop _)⟩
  unfold stepS
  split
  · exact hread true
  split
  · exact hread false
  split
  · exact hsent true
  split
  · exact hsent false
  · exact h

theorem SmallN.doS {N : Nat} {S : LS} (h : SmallN N S.s) (a : Act) (ha : ∀ z, z ∈ a.l → U8 z) : SmallN N (doS N S a).1.s := by
  unfold YthpdphbppapkhaaDoor.doS
  split
  · exact ⟨set_ok h.x true true _ _ ((h.x true true).app ha _ _), h.w⟩
  split
  · exact ⟨set_ok h.x true (!true) _ _ ((h.x true (!true)).drop _), h.w⟩
  split
  · exact ⟨set_ok h.x true true _ _ (h.x _ _), h.w⟩
  split
  · exact ⟨set_ok h.x false false _ _ ((h.x false false).app ha _ _), h.w⟩
  split
  · exact ⟨set_ok h.x false (!false) _ _ ((h.x false (!false)).drop _), h.w⟩
  split
  · exact ⟨set_ok h.x false false _ _ (h.x _ _), h.w⟩
  · exact h.step _ _ _

theorem SmallN.small {N : Nat} {s : RS} (h : SmallN N s) (hN : N ≤ 30) : Small s :=
  ⟨fun d j => (h.x d j).1, fun d => (h.w d).1, fun d j => by have := (h.x d j).2; omega, fun d => by have := (h.w d).2; omega⟩

theorem small_run {N : Nat} {S : LS} (h : SmallN N S.s) (l : List Act) (hl : ∀ a, a ∈ l → ∀ z, z ∈ a.l → U8 z) : SmallN N (runS N S l).s := by
  induction l generalizing S with
  | nil => exact h
  | cons b l ih => exact ih (h.doS b (hl b List.mem_cons_self)) (fun a ha => hl a (List.mem_cons_of_mem _ ha))

theorem small_new (N : Nat) : SmallN N ls0.s := ⟨fun d j => ⟨fun z hz => (by cases j <;> cases hz), by cases j <;> exact Nat.zero_le _⟩, fun d => ⟨fun z hz => (by cases hz), Nat.zero_le _⟩⟩

theorem isbytes_u8 {w : World} {a : Option Addr} {n c : Nat} {zs : List Int} (h : IsBytes w a n c zs) : ∀ z, z ∈ zs → U8 z := by
  obtain ⟨_, _, h3, h4⟩ := h
  intro z hz
  obtain ⟨i, hi, rfl⟩ := List.getElem_of_mem hz
  obtain ⟨_, _, _, _, _, hu⟩ := h4 i (by omega)
  rw [List.getD_eq_getElem?_getD, List.getElem?_eq_getElem hi] at hu
  exact hu

theorem acts_u8 {w : World} {a : Option Addr} {len cap : Nat} {acts : List Act} (h : IsActs w a len cap acts) : ∀ x, x ∈ acts → ∀ z, z ∈ x.l → U8 z := by
  obtain ⟨_, _, h3, h4⟩ := h
  intro x hx
  obtain ⟨i, hi, rfl⟩ := List.getElem_of_mem hx
  obtain ⟨b, off, act, _, _, he, la, ln, lc, _, _, _, _, hl, _⟩ := h4 i (by omega)
  rw [List.getElem?_eq_getElem hi] at he
  obtain rfl := Option.some.inj he
  exact isbytes_u8 hl

/-- The fact that a mem of the reference's reads. -/
theorem RefP.cells {w : World} {m : Nat} {G : List Nat} {n : Nat} {s : Line} (h : RefP w m G n s) (j : Bool) : ∃ q sp sc, w.cell? ⟨m, if j then 1 else 0, none⟩ = some (.pointer (some ⟨q, 0, none⟩)) ∧ w.cell? ⟨q, 0, none⟩ = some (.slice sp (s.x j).length sc) := by
  obtain ⟨q, Gq, c0, hq, _, _⟩ := h.way j
  obtain ⟨sp, sc, d0, _⟩ := hq.cells
  exact ⟨q, sp, sc, c0, d0⟩

section
open Go.RowKit
variable {w wr : World} {Wd R : Nat} {ln : Bool → Nat} {r : Nat} {m : Bool → Nat} {N : Nat} {S : LS} {C : Nat}

theorem Pair.rwrite (h : Pair w wr Wd R ln r m N S S.s C) (hC : C < wr.heap.size) (h0 : 0 < w.heap.size) (u : Bool) (side : Int) (hside : sd (!u) = side) {a : Option Addr} {n c : Nat} {zs : List Int} (hy : IsBytes wr a n c zs) (hn : n ≤ 100) (P : Nat) (hP : m u = P) (kd p1 p2 : Int) (hk : kd = if u then 4 else 7) :
    Calls Tryd.prog 24 #[.pointer (some ⟨P, 0, none⟩), .int .i64 side, .slice a n c] wr fun e w' => (∃ k : Nat, e = .returned (.int .i64 k)) ∧ Pair w w' Wd R ln r m N S (midS N S ⟨kd, p1, p2, zs⟩) C ∧ w'.heap[C]? = wr.heap[C]? ∧ C < w'.heap.size := by
  subst hP
  obtain ⟨F, hp, hfin⟩ := h.rline hC h0 u
  have hzn : zs.length = n := hy.2.2.1
  refine (ref_write hp u side hside a n c zs hy hn _ _ rfl rfl).mono ?_
  rintro e w' ⟨rfl, F', g1, g2, g3⟩
  refine ⟨⟨_, rfl⟩, ?_⟩
  have e : midS N S ⟨kd, p1, p2, zs⟩ = { S.s with l := upd S.s.l u ((S.s.l u).set u ((S.s.l u).x u ++ zs.take (took n ((S.s.l u).x u).length N ((S.s.l u).e u))) ((S.s.l u).e u)) } := by
    rw [← hzn]
    cases u
    · simp only [Bool.false_eq_true, if_false] at hk; subst hk; rfl
    · simp only [if_true] at hk; subst hk; rfl
  rw [e]
  exact hfin w' F' _ g1 g2 g3

theorem Pair.rread (h : Pair w wr Wd R ln r m N S S.s C) (hC : C < wr.heap.size) (h0 : 0 < w.heap.size) (hs : Small S.s) (u : Bool) (side : Int) (hside : sd (!u) = side) (zs : List Int) (P : Nat) (hP : m u = P) (kd p1 p2 : Int) (hk : kd = if u then 5 else 8) :
    Calls Tryd.prog 25 #[.pointer (some ⟨P, 0, none⟩), .int .i64 side, .int .i64 p1] wr fun e w' => (∃ sp k sc, e = .returned (.slice sp k sc)) ∧ Pair w w' Wd R ln r m N S (midS N S ⟨kd, p1, p2, zs⟩) C ∧ w'.heap[C]? = wr.heap[C]? ∧ C < w'.heap.size := by
  subst hP
  obtain ⟨F, hp, hfin⟩ := h.rline hC h0 u
  refine (ref_read hp (!u) side hside p1 _ _ rfl rfl (hs.1 u (!u))).mono ?_
  rintro e w' ⟨sp, sc, rfl, _, F', g1, g2, g3⟩
  refine ⟨⟨_, _, _, rfl⟩, ?_⟩
  have e : midS N S ⟨kd, p1, p2, zs⟩ = { S.s with l := upd S.s.l u ((S.s.l u).set (!u) (((S.s.l u).x (!u)).drop (count p1 ((S.s.l u).x (!u)).length)) ((S.s.l u).e (!u))) } := by
    cases u
    · simp only [Bool.false_eq_true, if_false] at hk; subst hk; rfl
    · simp only [if_true] at hk; subst hk; rfl
  rw [e]
  exact hfin w' F' _ g1 g2 g3

theorem Pair.rend (h : Pair w wr Wd R ln r m N S S.s C) (hC : C < wr.heap.size) (h0 : 0 < w.heap.size) (u : Bool) (zs : List Int) (P : Nat) (hP : m u = P) (kd p1 p2 : Int) (hk : kd = if u then 6 else 9) :
    ∃ q, wr.cell? ⟨P, if u then 1 else 0, none⟩ = some (.pointer (some ⟨q, 0, none⟩)) ∧ wr.frozen? ⟨q, 2, none⟩ = false ∧ wr.cell? ⟨q, 2, none⟩ = some (.bool ((S.s.l u).e u)) ∧
      Pair w (wr.setCell ⟨q, 2, none⟩ (.bool true)) Wd R ln r m N S (midS N S ⟨kd, p1, p2, zs⟩) C ∧ (wr.setCell ⟨q, 2, none⟩ (.bool true)).heap[C]? = wr.heap[C]? ∧ C < (wr.setCell ⟨q, 2, none⟩ (.bool true)).heap.size := by
  subst hP
  obtain ⟨F, hp, hfin⟩ := h.rline hC h0 u
  obtain ⟨q, d0, df, d2, F', g1, g2, g3⟩ := ref_end7 hp u
  refine ⟨q, d0, df, d2, ?_⟩
  have e : midS N S ⟨kd, p1, p2, zs⟩ = { S.s with l := upd S.s.l u ((S.s.l u).set u ((S.s.l u).x u) true) } := by
    cases u
    · simp only [Bool.false_eq_true, if_false] at hk; subst hk; rfl
    · simp only [if_true] at hk; subst hk; rfl
  rw [e]
  exact hfin _ F' _ g1 g2 g3

theorem midS_none (N : Nat) (S : LS) (x : Act) (h : x.kind < 4 ∨ 9 < x.kind) : midS N S x = S.s := by
  unfold midS
  rw [if_neg (by omega)]
end

end Go.Proofs.YthpdphbppapkhaaDoor
