/-
  What QueueOwn's range over the queue holds, round by round. No condition.
-/
import Derived.Test.YthpdphbppapkhaaStand
import Derived.Test.YthpdphbppapkhaaRange
namespace Go.Proofs.Ythpdphbppapkhaa.queueOwn
open Go.RowKit qi

theorem St.fresh {w0 w : World} {Bl Bq Bw b : Nat} {F : List Nat} {ls ws xs : List Int} {vl vw : Value} (h : St w0 w Bl Bq Bw b F ls ws xs vl vw) : w.heap.size ∉ F ∧ Bl ≤ w.heap.size ∧ w.heap.size ∉ bs Bl Bq Bw vl vw := by
  refine ⟨fun hm => by have := h.q.lt _ hm; omega, h.sz, fun hm => ?_⟩
  have a1 := h.bl.lt
  have a2 := h.br.lt
  have a3 := h.bq.lt
  have a4 := h.bw.lt
  simp only [bs, List.mem_cons, List.mem_append, Option.mem_toList] at hm
  rcases hm with e | e | e | e | e | e
  · omega
  · omega
  · omega
  · omega
  · have := (h.ol.lt _ e).2; omega
  · have := (h.ow.lt _ e).2; omega

/-- Every block of cells is as it was. -/
def Cells (w w' : World) : Prop := ∀ (k : Nat) (cs : Array Value) (t : TypeId) (fr : Nat × Nat), w.heap[k]? = some (Obj.cells cs t fr) → w'.heap[k]? = some (Obj.cells cs t fr)

theorem cells_grown {w w' : World} {row : Option Nat} (hg : w.grownBy w' row) (hr : ∀ r, row = some r → ∃ o : Obj, w.heap[r]? = some o ∧ o.isCells = false) : Cells w w' := fun k cs t fr h => by
  refine (hg.block k (Array.getElem?_eq_some_iff.1 h).1 fun e => ?_).trans h
  obtain ⟨o, ho, hc⟩ := hr k e.symm
  rw [h] at ho
  cases ho
  cases hc

theorem Cells.own {w w' : World} (h : Cells w w') {base : Nat} {v : Value} {xs : List Int} (ho : OwnInts w base v xs) : OwnInts w' base v xs := by
  obtain ⟨hl, hn | ⟨g, cap, cur, e, hb, hg, rest⟩⟩ := ho
  · exact ⟨hl, .inl hn⟩
  · exact ⟨hl, .inr ⟨g, cap, cur, e, hb, h _ _ _ _ hg, rest⟩⟩

theorem Cells.isQ {w w' : World} (h : Cells w w') {b : Nat} {F : List Nat} {xs : List Int} {most : Nat} {ended : Bool} (hq : IsQ w b F xs most ended) : IsQ w' b F xs most ended := by
  obtain ⟨v, first, L, rb, hb, hF, h1, h2, h3, h4, h5, hc⟩ := hq
  refine ⟨v, first, L, rb, h _ _ _ _ hb, hF, h1, h2, h3, h4, h5, ?_⟩
  rcases hc with hc | ⟨r, ring, e, a1, a2, a3, a4, hr, a5, a6⟩
  · exact .inl hc
  · exact .inr ⟨r, ring, e, a1, a2, a3, a4, h _ _ _ _ hr, a5, a6⟩

theorem isQ_cells {w : World} {b : Nat} {F : List Nat} {xs : List Int} {most : Nat} {ended : Bool} (hq : IsQ w b F xs most ended) : ∀ k, k ∈ F → ∃ cs t fr, w.heap[k]? = some (.cells cs t fr) := by
  obtain ⟨v, first, L, rb, hb, rfl, h1, h2, h3, h4, h5, hc⟩ := hq
  intro k hk
  rcases List.mem_cons.1 hk with rfl | hk
  · exact ⟨_, _, _, hb⟩
  · rcases hc with ⟨_, rfl, _⟩ | ⟨r, ring, rfl, a1, a2, a3, a4, hr, a5, a6⟩
    · cases hk
    · obtain rfl : k = r := by simpa using hk
      exact ⟨_, _, _, hr⟩

theorem keepsOthers_of {w w' : World} {F : List Nat} (hk : Keeps F w w') (hc : ∀ k, k ∈ F → ∃ cs t fr, w.heap[k]? = some (.cells cs t fr)) : KeepsOthers w w' :=
  ⟨hk.size, fun k o ho hn => (hk.block k (Array.getElem?_eq_some_iff.1 ho).1 fun hm => by
    obtain ⟨cs, t, fr, h⟩ := hc k hm
    rw [h] at ho
    cases ho
    cases hn).trans ho⟩

/-- The state within a round: k rounds are told of. -/
structure Md (w0 : World) (Bl Bq Bw Bi b gp : Nat) (xs ls : List Int) (vl vw : Value) (w : World) (F : List Nat) (cont : List Int) (k : Nat) : Prop where
  st : St w0 w Bl Bq Bw b F ls xs cont vl vw
  bi : Boxed w Bi 3 (.int .i64 k)
  h1 : Bi ∉ F
  h2 : gp ∉ F
  h3 : gp < w.heap.size
  h4 : gp ≠ Bi
  h5 : Bl ≤ Bi
  h6 : Bi ∉ bs Bl Bq Bw vl vw

section
variable {w0 w w' : World} {Bl Bq Bw Bi b gp : Nat} {xs ls : List Int} {vl vw : Value} {F F' : List Nat} {cont cont' : List Int} {k : Nat}

theorem Md.keeps (h : Md w0 Bl Bq Bw Bi b gp xs ls vl vw w F cont k) (hk : Keeps F w w') (hq : IsQ w' b F' cont' 60 false) (hs : ∀ x, x ∈ F' → x ∈ F ∨ w.heap.size ≤ x) :
    Md w0 Bl Bq Bw Bi b gp xs ls vl vw w' F' cont' k ∧ AtB gp w w' ∧ KeepsOthers w w' := by
  have hbi := h.bi.lt
  have h3 := h.h3
  refine ⟨⟨h.st.keeps hk hq hs, boxed_keeps h.bi hk h.h1, fun hm => ?_, fun hm => ?_, Nat.lt_of_lt_of_le h.h3 hk.size, h.h4, h.h5, h.h6⟩, hk.block gp h.h3 h.h2, keepsOthers_of hk (isQ_cells h.st.q)⟩
  · rcases hs _ hm with e | e
    · exact h.h1 e
    · omega
  · rcases hs _ hm with e | e
    · exact h.h2 e
    · omega

theorem Md.inc (h : Md w0 Bl Bq Bw Bi b gp xs ls vl vw w F cont k) :
    Md w0 Bl Bq Bw Bi b gp xs ls vl vw (w.setCell ⟨Bi, 0, none⟩ (.int .i64 (k + 1 : Nat))) F cont (k + 1) ∧ AtB gp w (w.setCell ⟨Bi, 0, none⟩ (.int .i64 (k + 1 : Nat))) ∧ KeepsOthers w (w.setCell ⟨Bi, 0, none⟩ (.int .i64 (k + 1 : Nat))) := by
  have no := h.h6
  simp only [bs, List.mem_cons, List.mem_append, Option.mem_toList, not_or] at no
  obtain ⟨n1, n2, n3, n4, n5, n6⟩ := no
  have far : ∀ {B : Nat} {t : TypeId} {v : Value}, Boxed w B t v → Bi ≠ B → Boxed (w.setCell ⟨Bi, 0, none⟩ (.int .i64 (k + 1 : Nat))) B t v := fun hB hn => (heap_setCell_other _ _ _ _ (fun e => hn e.symm)).trans hB
  refine ⟨⟨⟨far h.st.bl n1, far h.st.br n2, far h.st.bq n3, far h.st.bw n4, ownsRow_setCell_other h.st.ol (fun e => n5 e) _, ownsRow_setCell_other h.st.ow (fun e => n6 e) _,
    h.st.q.same (fun x hx => heap_setCell_other _ _ _ _ (fun e => h.h1 (by have e' : x = Bi := e; rw [← e']; exact hx))), h.st.hF, h.st.lw, h.st.bel.setCell h.h5 _, by simpa using h.st.sz⟩, h.bi.set _, h.h1, h.h2, by simpa using h.h3, h.h4, h.h5, h.h6⟩,
    heap_setCell_other _ _ _ _ h.h4, KeepsOthers.setCell _ _ _⟩

theorem Md.cells (h : Md w0 Bl Bq Bw Bi b gp xs ls vl vw w F cont k) (hc : Cells w w') (hb : Below Bl w w') (hs : w.heap.size ≤ w'.heap.size) : Md w0 Bl Bq Bw Bi b gp xs ls vl vw w' F cont k :=
  ⟨⟨hc _ _ _ _ h.st.bl, hc _ _ _ _ h.st.br, hc _ _ _ _ h.st.bq, hc _ _ _ _ h.st.bw, hc.own h.st.ol, hc.own h.st.ow, hc.isQ h.st.q, h.st.hF, h.st.lw, h.st.bel.trans hb, Nat.le_trans h.st.sz hs⟩, hc _ _ _ _ h.bi, h.h1, h.h2, Nat.lt_of_lt_of_le h.h3 hs, h.h4, h.h5, h.h6⟩
end

/-- Behind the round of pre. -/
def Lp (w0 : World) (Bl Bq Bw Bi b gp : Nat) (xs ls : List Int) (vl vw : Value) (pre : List Int) (w : World) : Prop :=
  pre <+: xs ∧ ∃ F, Md w0 Bl Bq Bw Bi b gp xs ls vl vw w F (if pre.length = 0 then xs else ls) pre.length

theorem Lp.own {w0 : World} {Bl Bq Bw Bi b gp : Nat} {xs ls : List Int} {vl vw : Value} {B : Nat} (hB : Bl ≤ B) : OwnFrom B (Lp w0 Bl Bq Bw Bi b gp xs ls vl vw) := by
  rintro pre W W' row ⟨hpre, F, h⟩ hg hr
  exact ⟨hpre, F, h.cells (cells_grown hg (fun r e => (hr r e).2)) ((Below.refl _ _).grown hg h.st.sz (fun k e => Nat.le_trans hB (hr k e).1)) hg.size⟩

theorem md_next {w0 wa w : World} {Bl Bq Bw Bi b gp k B : Nat} {xs ls pre : List Int} {vl vw : Value} {F : List Nat} {x : Int} (h : Md w0 Bl Bq Bw Bi b gp xs ls vl vw w F ls k) (hpre : pre <+: xs) (hk : pre.length = k) (hx : xs.getD k 0 = x) (hlt : k < xs.length) (hA : AtB gp wa w) (hK : KeepsOthers wa w) :
    KeepsFrom B wa (w.setCell ⟨Bi, 0, none⟩ (.int .i64 ((k : Int) + 1))) ∧ AtB gp wa (w.setCell ⟨Bi, 0, none⟩ (.int .i64 ((k : Int) + 1))) ∧ Lp w0 Bl Bq Bw Bi b gp xs ls vl vw (pre ++ [x]) (w.setCell ⟨Bi, 0, none⟩ (.int .i64 ((k : Int) + 1))) := by
  obtain ⟨hm, ha, hko⟩ := h.inc
  have e : ((k + 1 : Nat) : Int) = (k : Int) + 1 := by omega
  rw [e] at hm ha hko
  refine ⟨(hK.trans hko).from _, hA.trans ha, ?_, F, ?_⟩
  · obtain ⟨t, rfl⟩ := hpre
    subst hk
    match t, hlt, hx with
    | [], hlt, _ => simp at hlt
    | y :: t, _, hx =>
      have : y = x := by simpa [List.getD_eq_getElem?_getD] using hx
      subst this
      exact ⟨t, by simp⟩
  · rw [List.length_append, hk]
    exact hm

theorem bad_prefix {xs pre : List Int} {x : Int} (hne : x ≠ xs.getD pre.length 0) : ¬ (pre ++ [x]) <+: xs := by
  rintro ⟨t, rfl⟩
  exact hne (by simp [List.getD_eq_getElem?_getD])

end Go.Proofs.Ythpdphbppapkhaa.queueOwn
