/-
  Two of the statements' worlds side by side, and what was told, changed in place. Condition: at most 150 acts of at most 100 bytes each.
-/
import Derived.Test.YthpdphbppapkhaaDoorSame7
import Derived.Laws.StructEq
namespace Go.Proofs.YthpdphbppapkhaaDoor
open Go.RowKit qb

theorem eqIn36 (d : Nat) (a b : ByteArray) (w : World) : (Op.equalIn (d + 2) 36 (.agg #[.string a, .string b]) (.agg #[.string a, .string b])).run Tryd.prog w = .ok true w := by
  have h9 : ∀ x : ByteArray, (Op.equalIn (d + 1) 9 (.string x) (.string x)).run Tryd.prog w = .ok true w := by
    intro x
    rw [run_equalIn_string (P := Tryd.prog) w d 9 x x Tryd.underlying9]
    simp
  have p0 : (part 9 #[.string a, .string b] 0).run Tryd.prog w = .ok (.string a) w := by kernel_rfl
  have p1 : (part 9 #[.string a, .string b] 1).run Tryd.prog w = .ok (.string b) w := by kernel_rfl
  have hs : (sizeOf 9).run Tryd.prog w = .ok 1 w := by kernel_rfl
  rw [Op.equalIn]
  simp only [Sem.run_bind, run_underlying Tryd.underlying36, Result.andThen_ok, hs]
  rw [Std.Legacy.Range.forIn_eq_forIn_range']
  have hl : List.range' (0 : Nat) (([0:2] : Std.Legacy.Range).size) 1 = [0, 1] := rfl
  have hl' : List.range' ([0:2] : Std.Legacy.Range).start (([0:2] : Std.Legacy.Range).size) ([0:2] : Std.Legacy.Range).step = [0, 1] := rfl
  rw [hl']
  simp only [List.forIn_cons, List.forIn_nil, Sem.run_bind, Nat.zero_mul, Nat.one_mul, p0, p1, h9, Result.andThen_ok, Bool.not_true, Bool.false_eq_true, if_false, Sem.run_pure]
theorem eqAt36 (a b : ByteArray) : ∀ w : World, (Op.equalIn 10000 36 (.agg #[.string a, .string b]) (.agg #[.string a, .string b])).run Tryd.prog w = .ok true w := fun w => eqIn36 9998 a b w

/-- Two worlds of one state, apart from each other. -/
def Two (w wr : World) (Wd R : Nat) (ln : Bool → Nat) (Wd' R' : Nat) (ln' : Bool → Nat) (N : Nat) (S S' : LS) (C : Nat) : Prop :=
  ∃ H H', LW wr Wd R ln N S H ∧ LW wr Wd' R' ln' N S' H' ∧ (∀ k, k ∈ H → k ∉ H') ∧ Below w.heap.size w wr ∧ (∀ k, k ∈ H → w.heap.size ≤ k) ∧ (∀ k, k ∈ H' → w.heap.size ≤ k) ∧ w.heap.size ≤ wr.heap.size ∧ C ∉ H ∧ C ∉ H'

section
variable {w wr W1 : World} {Wd R : Nat} {ln : Bool → Nat} {Wd' R' : Nat} {ln' : Bool → Nat} {N : Nat} {S S' : LS} {C : Nat}

theorem Two.bel (h : Two w wr Wd R ln Wd' R' ln' N S S' C) : Below w.heap.size w wr := by
  obtain ⟨H, H', h1, h2, h3, h4, _⟩ := h
  exact h4

theorem Two.on (h : Two w wr Wd R ln Wd' R' ln' N S S' C) (hb : Below wr.heap.size wr W1) : Two w W1 Wd R ln Wd' R' ln' N S S' wr.heap.size := by
  obtain ⟨H, H', h1, h2, h3, h4, h5, h6, h7, h8, h9⟩ := h
  exact ⟨H, H', h1.below hb, h2.below hb, h3, h4.trans (hb.mono h7), h5, h6, Nat.le_trans h7 hb.size, fun hm => by have := h1.lt _ hm; omega, fun hm => by have := h2.lt _ hm; omega⟩

theorem Two.on' (h : Two w wr Wd R ln Wd' R' ln' N S S' C) (hb : Below wr.heap.size wr W1) : Two w W1 Wd R ln Wd' R' ln' N S S' C := by
  obtain ⟨H, H', h1, h2, h3, h4, h5, h6, h7, h8, h9⟩ := h
  exact ⟨H, H', h1.below hb, h2.below hb, h3, h4.trans (hb.mono h7), h5, h6, Nat.le_trans h7 hb.size, h8, h9⟩

theorem Two.first (h : Two w wr Wd R ln Wd' R' ln' N S S' C) (hC : C < wr.heap.size) (x : Act) (hx : x.l.length ≤ 100) {a : Option Addr} {n c : Nat} (hy : IsBytes w a n c x.l) (hwr : ∀ d, (S.wr d).length ≤ 100000) (hrd : ∀ d, (S.rd d).length ≤ 100000) :
    Calls Tryd.prog 31 #[.pointer (some ⟨Wd, 0, none⟩), .agg #[.int .i64 x.kind, .int .i64 x.p1, .int .i64 x.p2, .slice a n c]] wr fun e w' => e = .returned (.bool (doS N S x).2) ∧ Two w w' Wd R ln Wd' R' ln' N (doS N S x).1 S' C ∧ w'.heap[C]? = wr.heap[C]? ∧ C < w'.heap.size := by
  obtain ⟨H, H', h1, h2, h3, h4, h5, h6, h7, h8, h9⟩ := h
  obtain ⟨Q, hq, hQ⟩ := Slc.of_bytes hy h4
  refine (lw_do h1 x a n c Q hq (fun k hk hm => by have := hQ k hk; have := h5 k hm; omega) (by have := hy.2.2.1; omega) hwr hrd).mono ?_
  rintro e w' ⟨rfl, G, g1, g2, g3⟩
  refine ⟨rfl, ⟨G, H', g1, h2.keeps g2 (fun k hk hm => h3 k hm hk) h1.zero, fun k hk hm => ?_, g2.below h4 h5 h7, fun k hk => ?_, h6, Nat.le_trans h7 g2.size, fun hm => ?_, h9⟩, g2.block C hC h8, Nat.lt_of_lt_of_le hC g2.size⟩
  · rcases g3 k hk with h | h
    · exact h3 k h hm
    · have := h2.lt k hm; omega
  · rcases g3 k hk with h | h
    · exact h5 k h
    · omega
  · rcases g3 C hm with h | h
    · exact h8 h
    · omega

theorem Two.swap (h : Two w wr Wd R ln Wd' R' ln' N S S' C) : Two w wr Wd' R' ln' Wd R ln N S' S C := by
  obtain ⟨H, H', h1, h2, h3, h4, h5, h6, h7, h8, h9⟩ := h
  exact ⟨H', H, h2, h1, fun k hk hm => h3 k hm hk, h4, h6, h5, h7, h9, h8⟩

theorem Two.second (h : Two w wr Wd R ln Wd' R' ln' N S S' C) (hC : C < wr.heap.size) (x : Act) (hx : x.l.length ≤ 100) {a : Option Addr} {n c : Nat} (hy : IsBytes w a n c x.l) (hwr : ∀ d, (S'.wr d).length ≤ 100000) (hrd : ∀ d, (S'.rd d).length ≤ 100000) :
    Calls Tryd.prog 31 #[.pointer (some ⟨Wd', 0, none⟩), .agg #[.int .i64 x.kind, .int .i64 x.p1, .int .i64 x.p2, .slice a n c]] wr fun e w' => e = .returned (.bool (doS N S' x).2) ∧ Two w w' Wd R ln Wd' R' ln' N S (doS N S' x).1 C ∧ w'.heap[C]? = wr.heap[C]? ∧ C < w'.heap.size :=
  (h.swap.first hC x hx hy hwr hrd).mono fun _ _ ⟨h1, h2, h3⟩ => ⟨h1, h2.swap, h3⟩

theorem Two.lw (h : Two w wr Wd R ln Wd' R' ln' N S S' C) : ∃ H, LW wr Wd R ln N S H := by
  obtain ⟨H, H', h1, _⟩ := h
  exact ⟨H, h1⟩
theorem Two.lw' (h : Two w wr Wd R ln Wd' R' ln' N S S' C) : ∃ H, LW wr Wd' R' ln' N S' H := by
  obtain ⟨H, H', _, h1, _⟩ := h
  exact ⟨H', h1⟩
end

/-! ### what was told, changed in place -/
structure Mut (w4 wr : World) (Z T g n : Nat) (sp : Option Addr) (sc : Nat) (o : Bool) (D : Nat → Option Addr × Nat × Nat) (Q : List Nat) : Prop where
  bel : Below Z w4 wr
  hT : wr.heap[T]? = some (.cells #[.slice sp n sc, .bool o] 63 (0, 0))
  zT : Z ≤ T
  hg : 0 < n → sp = some ⟨g, 0, none⟩ ∧ Z ≤ g ∧ g ≠ T ∧ ∃ arr, wr.heap[g]? = some (.cells arr 69 (0, 0)) ∧ ∀ i, i < n → (∃ time, arr[i * 3 + 1]? = some (.int .i64 time)) ∧ arr[i * 3 + 2]? = some (.slice (D i).1 (D i).2.1 (D i).2.2)
  hd : ∀ i, i < n → (D i).2.1 ≤ (D i).2.2 ∧ (D i).2.2 ≤ maxLen ∧ ∀ j, j < (D i).2.1 → ∃ b off cs x, (D i).1 = some ⟨b, off, none⟩ ∧ b ∈ Q ∧ wr.heap[b]? = some (.cells cs 5 (0, 0)) ∧ cs[off + j]? = some (.int .u8 x)
  qz : ∀ b, b ∈ Q → Z ≤ b ∧ b ≠ g ∧ b ≠ T

section
variable {w4 wr : World} {Z T g n : Nat} {sp : Option Addr} {sc : Nat} {o : Bool} {D : Nat → Option Addr × Nat × Nat} {Q : List Nat}

theorem Mut.byte (h : Mut w4 wr Z T g n sp sc o D Q) {b : Nat} (hb : b ∈ Q) (m : Nat) (y : Int) : Mut w4 (wr.setCell ⟨b, m, none⟩ (.int .u8 y)) Z T g n sp sc o D Q := by
  obtain ⟨z1, z2, z3⟩ := h.qz b hb
  refine ⟨h.bel.setCell (p := ⟨b, m, none⟩) z1 _, (heap_setCell_other _ _ _ _ (by exact fun e => z3 e.symm)).trans h.hT, h.zT, fun hn => ?_, fun i hi => ?_, h.qz⟩
  · obtain ⟨e, h1, h2, arr, h3, h4⟩ := h.hg hn
    exact ⟨e, h1, h2, arr, (heap_setCell_other _ _ _ _ (by exact fun e => z2 e.symm)).trans h3, h4⟩
  · obtain ⟨h1, h2, h3⟩ := h.hd i hi
    refine ⟨h1, h2, fun j hj => ?_⟩
    obtain ⟨b', off, cs, x, e, hq, hh, hc⟩ := h3 j hj
    by_cases hbb : b' = b
    · subst hbb
      refine ⟨b', off, cs.setIfInBounds m (.int .u8 y), if m = off + j then y else x, e, hq, heap_setCell_same wr b' m _ _ _ hh, ?_⟩
      rw [Array.getElem?_setIfInBounds]
      split
      · next e => rw [if_pos (by rw [e]; exact (Array.getElem?_eq_some_iff.1 hc).1)]
      · exact hc
    · exact ⟨b', off, cs, x, e, hq, (heap_setCell_other _ _ _ _ hbb).trans hh, hc⟩

theorem Mut.time (h : Mut w4 wr Z T g n sp sc o D Q) (hn : 0 < n) (i : Nat) (y : Int) : Mut w4 (wr.setCell ⟨g, i * 3 + 1, none⟩ (.int .i64 y)) Z T g n sp sc o D Q := by
  obtain ⟨e, z1, z2, arr, h3, h4⟩ := h.hg hn
  refine ⟨h.bel.setCell (p := ⟨g, i * 3 + 1, none⟩) z1 _, (heap_setCell_other _ _ _ _ (by exact fun e => z2 e.symm)).trans h.hT, h.zT, fun hn => ⟨e, z1, z2, _, heap_setCell_same wr g _ _ _ _ h3, fun j hj => ?_⟩, fun j hj => ?_, h.qz⟩
  · obtain ⟨⟨t, ht⟩, h5⟩ := h4 j hj
    rw [Array.getElem?_setIfInBounds, Array.getElem?_setIfInBounds]
    refine ⟨?_, ?_⟩
    · split
      · next e => exact ⟨y, by rw [← e] at ht; rw [if_pos (Array.getElem?_eq_some_iff.1 ht).1]⟩
      · exact ⟨t, ht⟩
    · rw [if_neg (by omega)]; exact h5
  · obtain ⟨h1, h2, h5⟩ := h.hd j hj
    refine ⟨h1, h2, fun k hk => ?_⟩
    obtain ⟨b', off, cs, x, e, hq, hh, hc⟩ := h5 k hk
    exact ⟨b', off, cs, x, e, hq, (heap_setCell_other _ _ _ _ (h.qz b' hq).2.1).trans hh, hc⟩

theorem Mut.row (h : Mut w4 wr Z T g n sp sc o D Q) {i : Nat} (hi : i < n) : sp = some ⟨g, 0, none⟩ ∧ wr.cell? ⟨T, 0, none⟩ = some (.slice sp n sc) ∧ wr.cell? ⟨g, i * 3 + 2, none⟩ = some (.slice (D i).1 (D i).2.1 (D i).2.2) ∧
    (∃ time, wr.cell? ⟨g, i * 3 + 1, none⟩ = some (.int .i64 time)) ∧ wr.frozen? ⟨g, i * 3 + 1, none⟩ = false ∧ (D i).2.1 ≤ (D i).2.2 ∧ (D i).2.2 ≤ maxLen := by
  obtain ⟨e, z1, z2, arr, h3, h4⟩ := h.hg (by omega)
  obtain ⟨⟨t, ht⟩, h5⟩ := h4 i hi
  exact ⟨e, cell_at h.hT 0, (cell_at h3 _).trans h5, ⟨t, (cell_at h3 _).trans ht⟩, frozen_of_row _ _ _ _ _ h3, (h.hd i hi).1, (h.hd i hi).2.1⟩

theorem Mut.bytes (h : Mut w4 wr Z T g n sp sc o D Q) {i : Nat} (hi : i < n) {j : Nat} (hj : j < (D i).2.1) : ∃ b off x, (D i).1 = some ⟨b, off, none⟩ ∧ b ∈ Q ∧ wr.cell? ⟨b, off + j, none⟩ = some (.int .u8 x) ∧ wr.frozen? ⟨b, off + j, none⟩ = false := by
  obtain ⟨b, off, cs, x, e, hq, hh, hc⟩ := (h.hd i hi).2.2 j hj
  exact ⟨b, off, x, e, hq, (cell_at hh _).trans hc, frozen_of_row _ _ _ _ _ hh⟩

theorem Mut.start {w4 w5 : World} {v : Value} {evs : List Ev} (ht : Told w5 w4.heap.size v evs) (hb : Below w4.heap.size w4 w5) (o : Bool) :
    ∃ sp sc g D Q, v = .slice sp evs.length sc ∧ evs.length ≤ sc ∧ sc ≤ maxLen ∧ Mut w4 (w5.alloc (.cells #[v, .bool o] 63)) w4.heap.size w5.heap.size g evs.length sp sc o D Q := by
  obtain ⟨evl, Q, hrow, hq, hd, hQ⟩ := ht
  have hvl : evl.length = evs.length := by rw [← hq]; simp
  have hbA : Below w4.heap.size w4 (w5.alloc (.cells #[v, .bool o] 63)) := hb.alloc hb.size _
  have hTT := heap_alloc_new w5 (.cells #[v, .bool o] 63)
  rcases hrow.2 with ⟨rfl, e⟩ | ⟨g, cap, cur, rfl, hBg, hg, hnc, hcm, hcs, htk⟩
  · refine ⟨none, 0, 0, fun _ => (none, 0, 0), [], by rw [e], by omega, by simp [maxLen], hbA, by rw [← e] at *; exact hTT, hb.size, fun hn => by omega, fun i hi => by omega, fun b hb => (by cases hb)⟩
  · have hglt := (Array.getElem?_eq_some_iff.1 hg).1
    have cell : ∀ (j : Nat) (u : Value), (evCells evl)[j]? = some u → cur[j]? = some u := by
      intro j u hj
      have hc := hrow.cells (g := g) rfl j u hj
      have hadd : (⟨g, 0, none⟩ : Addr).add j = ⟨g, 0 + j, none⟩ := by unfold Addr.add; split <;> simp_all
      rw [hadd, Nat.zero_add] at hc
      rw [← cell_at hg j]
      exact hc
    refine ⟨_, _, g, fun i => match evl[i]?.map Prod.snd with | some (.slice a k c) => (a, k, c) | _ => (none, 0, 0), Q, rfl, hnc, hcm, hbA, hTT, hb.size, fun hn => ⟨rfl, hBg, by omega, cur, (heap_alloc_old _ _ hglt).trans hg, fun i hi => ?_⟩, fun i hi => ?_, fun b hb' => ?_⟩
    · obtain ⟨e0, e1, e2⟩ := evCells_get evl i (by omega)
      have hm := hd _ (List.getElem_mem (show i < evl.length by omega))
      obtain ⟨a, c, hx, _⟩ := hm.form
      rw [Nat.mul_comm 3 i] at e1 e2
      refine ⟨⟨_, cell _ _ e1⟩, ?_⟩
      rw [cell _ _ e2]
      simp only [List.getElem?_eq_getElem (show i < evl.length by omega), Option.map_some, hx]
    · have hm := hd _ (List.getElem_mem (show i < evl.length by omega))
      obtain ⟨a, k, c, hx, h1, h2, h3, h4⟩ := hm
      simp only [List.getElem?_eq_getElem (show i < evl.length by omega), Option.map_some, hx]
      refine ⟨h1, h2, fun j hj => ?_⟩
      obtain ⟨b, off, e, hbQ, hbl, hc⟩ := h4 j hj
      obtain ⟨_, _, cs, hcs'⟩ := hQ b hbQ
      exact ⟨b, off, cs, _, e, hbQ, (heap_alloc_old _ _ hbl).trans hcs', (cell_at hcs' (off + j)).symm.trans hc⟩
    · obtain ⟨h1, h2, cs, h3⟩ := hQ b hb'
      exact ⟨h1, fun e => h2 (by rw [e]; simp [Value.ownBlock]), fun e => by have := (Array.getElem?_eq_some_iff.1 h3).1; omega⟩
end

end Go.Proofs.YthpdphbppapkhaaDoor
