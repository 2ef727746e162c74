/-
  What QueueOwn holds in memory: the boxes of its variables, the slices, the queue; and what leaves them alone. No condition.
-/
import Derived.Test.YthpdphbppapkhaaApp
namespace Go.Proofs.Ythpdphbppapkhaa.queueOwn
open Go.RowKit qi

/-- The blocks that are none of the queue's. -/
def bs (Bl Bq Bw : Nat) (vl vw : Value) : List Nat := Bl :: (Bl + 1) :: Bq :: Bw :: (vl.ownBlock.toList ++ vw.ownBlock.toList)

structure St (w0 w : World) (Bl Bq Bw b : Nat) (F : List Nat) (ls ws xs : List Int) (vl vw : Value) : Prop where
  bl : Boxed w Bl 35 vl
  br : Boxed w (Bl + 1) 4 (.bool false)
  bq : Boxed w Bq 25 (.pointer (some ⟨b, 0, none⟩))
  bw : Boxed w Bw 35 vw
  ol : OwnInts w Bl vl ls
  ow : OwnInts w Bl vw ws
  q : IsQ w b F xs 60 false
  hF : ∀ x, x ∈ F → Bl ≤ x ∧ x ∉ bs Bl Bq Bw vl vw
  lw : ∀ x, vl.ownBlock = some x → vw.ownBlock ≠ some x
  bel : Below Bl w0 w
  sz : Bl ≤ w.heap.size

theorem boxed_keeps {w w' : World} {F : List Nat} {B : Nat} {t : TypeId} {v : Value} (h : Boxed w B t v) (hk : Keeps F w w') (hn : B ∉ F) : Boxed w' B t v := (hk.block B h.lt hn).trans h

theorem St.keeps {w0 w w' : World} {Bl Bq Bw b : Nat} {F F' : List Nat} {ls ws xs xs' : List Int} {vl vw : Value} (h : St w0 w Bl Bq Bw b F ls ws xs vl vw) (hk : Keeps F w w') (hq : IsQ w' b F' xs' 60 false) (hs : ∀ x, x ∈ F' → x ∈ F ∨ w.heap.size ≤ x) : St w0 w' Bl Bq Bw b F' ls ws xs' vl vw := by
  have no : ∀ x, x ∈ bs Bl Bq Bw vl vw → x ∉ F := fun x hx hf => (h.hF x hf).2 hx
  have hlt : ∀ x, x ∈ bs Bl Bq Bw vl vw → x < w.heap.size := by
    intro x hx
    simp only [bs, List.mem_cons, List.mem_append, Option.mem_toList] at hx
    rcases hx with rfl | rfl | rfl | rfl | hx | hx
    · exact h.bl.lt
    · exact h.br.lt
    · exact h.bq.lt
    · exact h.bw.lt
    · exact (h.ol.lt x hx).2
    · exact (h.ow.lt x hx).2
  refine ⟨boxed_keeps h.bl hk (no _ (by simp [bs])), boxed_keeps h.br hk (no _ (by simp [bs])), boxed_keeps h.bq hk (no _ (by simp [bs])), boxed_keeps h.bw hk (no _ (by simp [bs])),
    own_keeps h.ol hk (fun x hx => no x (by simp [bs, hx])), own_keeps h.ow hk (fun x hx => no x (by simp [bs, hx])), hq, fun x hx => ?_, h.lw, hk.below h.bel (fun x hx => (h.hF x hx).1) h.sz, Nat.le_trans h.sz hk.size⟩
  rcases hs x hx with hm | hm
  · exact h.hF x hm
  · exact ⟨Nat.le_trans h.sz hm, fun hb => by have := hlt x hb; omega⟩

theorem St.below {w0 w w' : World} {Bl Bq Bw b : Nat} {F : List Nat} {ls ws xs : List Int} {vl vw : Value} (h : St w0 w Bl Bq Bw b F ls ws xs vl vw) (hb : Below w.heap.size w w') : St w0 w' Bl Bq Bw b F ls ws xs vl vw :=
  h.keeps (Keeps.of_below hb F) (h.q.below hb (Nat.le_refl _)) (fun _ hx => .inl hx)

theorem St.drewN {w0 w : World} {Bl Bq Bw b : Nat} {F : List Nat} {ls ws xs : List Int} {vl vw : Value} (h : St w0 w Bl Bq Bw b F ls ws xs vl vw) (k : Nat) : St w0 (w.drewN k) Bl Bq Bw b F ls ws xs vl vw :=
  h.below (below_drewN (Below.refl _ _) k)

theorem St.alloc {w0 w : World} {Bl Bq Bw b : Nat} {F : List Nat} {ls ws xs : List Int} {vl vw : Value} (h : St w0 w Bl Bq Bw b F ls ws xs vl vw) (o : Obj) : St w0 (w.alloc o) Bl Bq Bw b F ls ws xs vl vw :=
  h.below ((Below.refl _ _).alloc (Nat.le_refl _) _)

/-- A number of one's own slice is turned. -/
theorem own_set {w : World} {base g n c : Nat} {xs : List Int} (h : OwnInts w base (.slice (some ⟨g, 0, none⟩) n c) xs) (i : Nat) (y : Int) :
    OwnInts (w.setCell ⟨g, i, none⟩ (.int .i64 y)) base (.slice (some ⟨g, 0, none⟩) n c) (xs.set i y) := by
  obtain ⟨hl, hn | ⟨g', cap, cur, e, hb, hg, h1, h2, h3, h4⟩⟩ := h
  · cases hn.1
  · obtain ⟨rfl, hn, rfl⟩ : g = g' ∧ n = xs.length ∧ c = cap := by simpa using e
    unfold OwnInts
    rw [List.length_set]
    refine ⟨by simp, .inr ⟨g, c, _, by rw [hn], hb, heap_setCell_same w g i _ _ _ hg, h1, h2, by simpa using h3, ?_⟩⟩
    rw [Array.toList_setIfInBounds, List.take_set, h4, List.map_set]

theorem St.set {w0 w : World} {Bl Bq Bw b g n c : Nat} {F : List Nat} {ls ws xs : List Int} {vw : Value} (h : St w0 w Bl Bq Bw b F ls ws xs (.slice (some ⟨g, 0, none⟩) n c) vw) (i : Nat) (y : Int) :
    St w0 (w.setCell ⟨g, i, none⟩ (.int .i64 y)) Bl Bq Bw b F (ls.set i y) ws xs (.slice (some ⟨g, 0, none⟩) n c) vw := by
  have hgl := h.ol.lt g rfl
  have far : ∀ {B : Nat} {t : TypeId} {v : Value}, Boxed w B t v → t ≠ 3 → Boxed (w.setCell ⟨g, i, none⟩ (.int .i64 y)) B t v := fun hB ht => by
    have := hB.not_row ht h.ol
    exact (heap_setCell_other _ _ _ _ (fun e => this (by rw [e]; rfl))).trans hB
  refine ⟨far h.bl (by decide), far h.br (by decide), far h.bq (by decide), far h.bw (by decide), own_set h.ol i y, ownsRow_setCell_other h.ow (fun e => h.lw g rfl e) _,
    h.q.same (fun k hk => heap_setCell_other _ _ _ _ (fun e => (h.hF k hk).2 (by rw [e]; simp [bs, Value.ownBlock]))), h.hF, h.lw, h.bel.setCell hgl.1 _, by simpa using h.sz⟩

theorem boxed_below {w w' : World} {B : Nat} {t : TypeId} {v : Value} (h : Boxed w B t v) {N : Nat} (hb : Below N w w') (hN : w.heap.size ≤ N) : Boxed w' B t v := (hb.block B (Nat.lt_of_lt_of_le h.lt hN)).trans h

theorem own_empty (w : World) {base : Nat} (h : base ≤ w.heap.size) : OwnInts (w.alloc (.cells #[] 3)) base (.slice (some ⟨w.heap.size, 0, none⟩) 0 0) [] :=
  ⟨rfl, .inr ⟨w.heap.size, 0, #[], rfl, h, heap_alloc_new w _, Nat.le_refl _, Nat.zero_le _, rfl, rfl⟩⟩

theorem own_any {w : World} {base : Nat} {v : Value} {xs : List Int} (h : OwnInts w base v xs) : ∃ sp l sc, v = .slice sp l sc := by
  obtain ⟨sp, sc, e⟩ := h.form
  exact ⟨sp, _, sc, e⟩

/-- The beginning: the queue is new, 'was' has been copied. -/
theorem St.mk0 {w0 wc w3 w4 w5 : World} {Bl b : Nat} {xs : List Int} {vl v' : Value} (hbl : Boxed wc Bl 35 vl) (hbr : Boxed wc (Bl + 1) 4 (.bool false)) (hol : OwnInts wc Bl vl xs) (hbe : Below Bl w0 wc)
    (hq : IsQ w3 b [b] [] 60 false) (hb3 : Below wc.heap.size wc w3) (hbb : wc.heap.size ≤ b) (hb4 : Below (w3.heap.size + 1) (w3.alloc (.cells #[.pointer (some ⟨b, 0, none⟩)] 25)) w4)
    (hown : OwnInts w5 Bl v' xs) (hgrow : (w4.alloc (.cells #[] 3)).grownBy w5 (some w4.heap.size)) (hat : v'.ownBlock = some w4.heap.size ∨ v'.ownBlock = some (w4.heap.size + 1)) :
    St w0 (w5.alloc (.cells #[v'] 35)) Bl w3.heap.size w5.heap.size b [b] xs xs [] vl v' := by
  have s0 := hbl.lt
  have s1 := hbr.lt
  have s3 := hb3.size
  have hbl3 := hq.lt b (by simp)
  have s4 : w3.heap.size + 1 ≤ w4.heap.size := by have := hb4.size; simpa using this
  have s5 : w4.heap.size + 1 ≤ w5.heap.size := by have := hgrow.size; simpa using this
  have up : ∀ {B : Nat} {t : TypeId} {v : Value}, Boxed wc B t v → Boxed (w5.alloc (.cells #[v'] 35)) B t v := fun {B t v} h => by
    have := h.lt
    have h4 := ((boxed_below ((boxed_below h hb3 (Nat.le_refl _)).alloc (.cells #[.pointer (some ⟨b, 0, none⟩)] 25)) hb4 (by simp)).alloc (.cells #[] 3)).kept hgrow (by simp; omega)
    exact h4.alloc _
  have hbq : Boxed (w5.alloc (.cells #[v'] 35)) w3.heap.size 25 (.pointer (some ⟨b, 0, none⟩)) := by
    have h4 := ((boxed_below (Boxed.new w3 25 (.pointer (some ⟨b, 0, none⟩))) hb4 (by simp)).alloc (.cells #[] 3)).kept hgrow (by simp; omega)
    exact h4.alloc _
  have hol3 : OwnInts w3 Bl vl xs := own_below hol hb3 (Nat.le_refl _)
  have hol4 : OwnInts w4 Bl vl xs := own_below (hol3.alloc (.cells #[.pointer (some ⟨b, 0, none⟩)] 25)) hb4 (by simp)
  have hvl : ∀ x, vl.ownBlock = some x → x < wc.heap.size := fun x hx => (hol.lt x hx).2
  have hol5 : OwnInts w5 Bl vl xs := (hol4.alloc (.cells #[] 3)).kept hgrow (by
    cases hv : vl.ownBlock with
    | none => exact .inl rfl
    | some x => exact .inr (fun e => by have := hvl x hv; simp at e; omega))
  have hq3 := hq.below (B := w3.heap.size) (w' := w3.alloc (.cells #[.pointer (some ⟨b, 0, none⟩)] 25)) ((Below.refl _ _).alloc (Nat.le_refl _) _) (Nat.le_refl _)
  have hq4 := hq3.below hb4 (by simp)
  have hq5 : IsQ (w5.alloc (.cells #[v'] 35)) b [b] [] 60 false := hq4.same fun k hk => by
    rcases List.mem_singleton.1 hk with rfl
    exact (Below.heap_alloc _ _ _ (by omega)).trans ((hgrow.block k (by simp; omega) (by simp; omega)).trans (Below.heap_alloc _ _ _ (by omega)))
  have hv5 : ∀ x, v'.ownBlock = some x → w4.heap.size ≤ x := fun x hx => by
    rcases hat with e | e
    · rw [hx] at e; simp at e; omega
    · rw [hx] at e; simp at e; omega
  have hbel5 : Below Bl w0 w5 := by
    have a3 : Below Bl w0 w3 := hbe.trans (hb3.mono (by omega))
    have a4 : Below Bl w0 w4 := (a3.alloc (by omega) _).trans (hb4.mono (by omega))
    exact (a4.alloc (by omega) (.cells #[] 3)).grown hgrow (by simp; omega) (fun k e => by cases e; omega)
  refine ⟨up hbl, up hbr, hbq, Boxed.new w5 35 v', hol5.alloc _, hown.alloc _, hq5, fun x hx => ?_, fun x hx hy => ?_, hbel5.alloc (by omega) _, by simp; omega⟩
  · rcases List.mem_singleton.1 hx with rfl
    refine ⟨by omega, fun hm => ?_⟩
    simp only [bs, List.mem_cons, List.mem_append, Option.mem_toList] at hm
    rcases hm with e | e | e | e | e | e
    · omega
    · omega
    · omega
    · omega
    · have := hvl _ e; omega
    · have := hv5 _ e; omega
  · have := hvl x hx
    have := hv5 x hy
    omega

/-- l, handed on to Put. -/
theorem St.given {w0 w : World} {Bl Bq Bw b n c : Nat} {sl : Option Addr} {F : List Nat} {ls ws xs : List Int} {vw : Value} (h : St w0 w Bl Bq Bw b F ls ws xs (.slice sl n c) vw) (hn : ls.length = n) : GivenIn w F sl n c ls := by
  have ho := h.ol
  unfold OwnInts at ho
  rw [hn] at ho
  have hi := ints_of_own ho
  refine ⟨(own_cap ho).1, (own_cap ho).2, hn, fun i hi' => ?_⟩
  obtain ⟨xb, xo, rfl, hc⟩ := hi.2 i hi'
  exact ⟨xb, xo, rfl, World.block_lt_of_cell? w _ hc, fun hm => (h.hF xb hm).2 (by simp [bs, Value.ownBlock]), hc⟩

theorem own_elem {w : World} {base n c i : Nat} {sl : Option Addr} {ls : List Int} (h : OwnInts w base (.slice sl n c) ls) (hn : ls.length = n) (hi : i < n) :
    ∃ g, sl = some ⟨g, 0, none⟩ ∧ w.cell? ⟨g, i, none⟩ = some (.int .i64 (ls.getD i 0)) ∧ w.frozen? ⟨g, i, none⟩ = false := by
  have ho := h
  unfold OwnInts at ho
  rw [hn] at ho
  have hi' := (ints_of_own ho).2 i hi
  rcases h.2 with ⟨e, _⟩ | ⟨g, cap, cur, e, _, hg, _⟩
  · have : n = 0 := by simpa using (congrArg (fun v => match v with | Value.slice _ n _ => n | _ => 0) e)
    omega
  · obtain ⟨rfl, _⟩ : sl = some ⟨g, 0, none⟩ ∧ n = ls.length ∧ c = cap := by simpa using e
    obtain ⟨b, off, e2, hc⟩ := hi'
    obtain ⟨rfl, rfl⟩ : g = b ∧ 0 = off := by simpa using e2
    exact ⟨g, rfl, by simpa using hc, frozen_of_row _ _ _ _ _ hg⟩

/-- The first i numbers turned by f. -/
def turned (f : Int → Int) (xs : List Int) (i : Nat) : List Int := (xs.take i).map f ++ xs.drop i

theorem turned_zero (f : Int → Int) (xs : List Int) : turned f xs 0 = xs := by simp [turned]
theorem turned_length (f : Int → Int) (xs : List Int) (i : Nat) : (turned f xs i).length = xs.length := by simp [turned]; omega
theorem turned_get (f : Int → Int) (xs : List Int) {i : Nat} (hi : i < xs.length) : (turned f xs i).getD i 0 = xs.getD i 0 := by
  unfold turned
  rw [List.getD_eq_getElem?_getD, List.getElem?_append_right (by simp; omega)]
  simp [List.getD_eq_getElem?_getD, show min i xs.length = i by omega]
theorem turned_set (f : Int → Int) (xs : List Int) {i : Nat} (hi : i < xs.length) : (turned f xs i).set i (f (xs.getD i 0)) = turned f xs (i + 1) := by
  unfold turned
  have hl : ((xs.take i).map f).length = i := by simp; omega
  rw [List.set_append_right _ _ (by omega), hl, Nat.sub_self, List.drop_eq_getElem_cons hi, List.set_cons_zero, List.take_succ_eq_append_getElem hi, List.map_append, List.append_assoc]
  simp [List.getD_eq_getElem?_getD, hi]

theorem _root_.Go.Proofs.Ythpdphbppapkhaa.qi.GivenIn.ints {w : World} {F : List Nat} {sl : Option Addr} {n c : Nat} {ls : List Int} (h : GivenIn w F sl n c ls) : Ints w sl n ls :=
  ⟨h.2.2.1, fun i hi => by obtain ⟨xb, xo, e, _, _, hc⟩ := h.2.2.2 i hi; exact ⟨xb, xo, e, hc⟩⟩

end Go.Proofs.Ythpdphbppapkhaa.queueOwn
