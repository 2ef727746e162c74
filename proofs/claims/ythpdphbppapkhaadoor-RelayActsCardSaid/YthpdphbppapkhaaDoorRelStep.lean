/-
  The walks of a relay's reading, whatever the case, and of a step. No condition.
-/
import Derived.Test.YthpdphbppapkhaaDoorRelReadNone
namespace Go.Proofs.YthpdphbppapkhaaDoor
open Go.RowKit qb

theorem relay_read {w : World} {R : Nat} {ln : Bool → Nat} {N : Nat} {s : RS} {H : List Nat} (h : Rel w R ln N s H) (d : Bool) (side : Int) (hside : sd d = side) (n t : Int) :
    Calls Tryd.prog 54 #[.pointer (some ⟨R, 0, none⟩), .int .i64 side, .int .i64 n, .int .i64 t] w (Stepped w R ln N H (readS s d n t).1 (readS s d n t).2) := by
  by_cases hc : cannot s d n
  · have e : readS s d n t = (s, false) := by unfold readS; rw [if_pos hc]
    rw [e]
    refine (read_no h d side hside n t hc).mono ?_
    rintro e w' ⟨rfl, rfl⟩
    exact stepped_refl h false
  · by_cases hp : 0 < readN s d n
    · have e : readS s d n t = (got s d (readN s d n) t, true) := by unfold readS; rw [if_neg hc, if_pos hp]
      rw [e]
      exact read_go h d side hside n t hc _ rfl hp
    · have e : readS s d n t = (outS s d (isOver s d), isOver s d) := by
        unfold readS outS
        rw [if_neg hc, if_neg hp]
        cases isOver s d <;> rfl
      rw [e]
      exact read_none h d side hside n t hc (by omega) _ rfl

/-- What a step does. -/
def stepS (N : Nat) (s : RS) (kind n t : Int) : RS × Bool :=
  if kind = 0 then readS s true n t else if kind = 1 then readS s false n t else if kind = 2 then (sent s true n N, decide (0 < sentN s true n N)) else if kind = 3 then (sent s false n N, decide (0 < sentN s false n N)) else (s, false)

set_option maxRecDepth 100000 in
set_option maxHeartbeats 2000000 in
theorem relay_step {w : World} {R : Nat} {ln : Bool → Nat} {N : Nat} {s : RS} {H : List Nat} (h : Rel w R ln N s H) (kind n t : Int) :
    Calls Tryd.prog 38 #[.pointer (some ⟨R, 0, none⟩), .int .i64 kind, .int .i64 n, .int .i64 t] w (Stepped w R ln N H (stepS N s kind n t).1 (stepS N s kind n t).2) := by
  obtain ⟨P, hP⟩ : ∃ P : RS × Bool, stepS N s kind n t = P := ⟨_, rfl⟩
  obtain ⟨s', r⟩ := P
  rw [hP]
  have fin : ∀ {f : Nat} {args : Array Value} {s2 : RS} {r2 : Bool}, (s2, r2) = (s', r) → Calls Tryd.prog f args w (Stepped w R ln N H s2 r2) → Calls Tryd.prog f args w fun e w' => e = .returned (.bool r) ∧ Hid (Stepped w R ln N H s' r e w') := by
    intro f args s2 r2 e hc
    obtain ⟨rfl, rfl⟩ : s2 = s' ∧ r2 = r := by simpa using e
    exact hc.mono fun e w' h => ⟨h.1, h⟩
  have h0 : Hid (kind = 0 → Calls Tryd.prog 54 #[.pointer (some ⟨R, 0, none⟩), .int .i64 1, .int .i64 n, .int .i64 t] w fun e w' => e = .returned (.bool r) ∧ Hid (Stepped w R ln N H s' r e w')) := by
    rintro rfl
    exact fin (by rw [← hP]; rfl) (relay_read h true 1 rfl n t)
  have h1 : Hid (kind = 1 → Calls Tryd.prog 54 #[.pointer (some ⟨R, 0, none⟩), .int .i64 0, .int .i64 n, .int .i64 t] w fun e w' => e = .returned (.bool r) ∧ Hid (Stepped w R ln N H s' r e w')) := by
    rintro rfl
    exact fin (by rw [← hP]; rfl) (relay_read h false 0 rfl n t)
  have h2 : Hid (kind = 2 → Calls Tryd.prog 55 #[.pointer (some ⟨R, 0, none⟩), .int .i64 1, .int .i64 n] w fun e w' => e = .returned (.bool r) ∧ Hid (Stepped w R ln N H s' r e w')) := by
    rintro rfl
    exact fin (by rw [← hP]; rfl) (relay_write h true 1 rfl n)
  have h3 : Hid (kind = 3 → Calls Tryd.prog 55 #[.pointer (some ⟨R, 0, none⟩), .int .i64 0, .int .i64 n] w fun e w' => e = .returned (.bool r) ∧ Hid (Stepped w R ln N H s' r e w')) := by
    rintro rfl
    exact fin (by rw [← hP]; rfl) (relay_write h false 0 rfl n)
  by_cases k1 : kind = 1
  · subst k1
    clear hP fin h h0 h2 h3
    go_enter Tryd.func38, Tryd.ntmps38
    go_wp2_with fail
    refine Calls.mono (h1.out (by first | rfl | trivial)) ?_
    rintro e w' ⟨rfl, HF⟩
    go_wp2_with fail
    go_ret
    exact HF.out
  by_cases k0 : kind = 0
  · subst k0
    clear hP fin h h1 h2 h3
    go_enter Tryd.func38, Tryd.ntmps38
    go_wp2_with fail
    refine Calls.mono (h0.out (by first | rfl | trivial)) ?_
    rintro e w' ⟨rfl, HF⟩
    go_wp2_with fail
    go_ret
    exact HF.out
  by_cases k3 : kind = 3
  · subst k3
    clear hP fin h h0 h1 h2
    go_enter Tryd.func38, Tryd.ntmps38
    go_wp2_with fail
    refine Calls.mono (h3.out (by first | rfl | trivial)) ?_
    rintro e w' ⟨rfl, HF⟩
    go_wp2_with fail
    go_ret
    exact HF.out
  by_cases k2 : kind = 2
  · subst k2
    clear hP fin h h0 h1 h3
    go_enter Tryd.func38, Tryd.ntmps38
    go_wp2_with fail
    refine Calls.mono (h2.out (by first | rfl | trivial)) ?_
    rintro e w' ⟨rfl, HF⟩
    go_wp2_with fail
    go_ret
    exact HF.out
  · obtain ⟨rfl, rfl⟩ : s = s' ∧ false = r := by
      have : stepS N s kind n t = (s, false) := by unfold stepS; rw [if_neg k0, if_neg k1, if_neg k2, if_neg k3]
      rw [this] at hP
      simpa using hP
    have HF := Lib.hid (stepped_refl h false)
    have z0 : (kind == 0) = false := by simpa using k0
    have z1 : (kind == 1) = false := by simpa using k1
    have z2 : (kind == 2) = false := by simpa using k2
    have z3 : (kind == 3) = false := by simpa using k3
    clear hP fin h h0 h1 h2 h3 k0 k1 k2 k3
    go_enter Tryd.func38, Tryd.ntmps38
    go_wp2_with fail
    go_ret
    exact HF.out

/-- What is told of the notes: all of it lies in blocks of its own. -/
def Told (w : World) (B : Nat) (v : Value) (evs : List Ev) : Prop :=
  ∃ evl Q, w.ownsRow B 69 3 v evs.length (evCells evl) ∧ evl.map Prod.fst = evs ∧ (∀ x, x ∈ evl → Slc w Q x.2 x.1.data) ∧ (∀ k, k ∈ Q → B ≤ k ∧ k ∉ v.ownBlock.toList ∧ ∃ cs, w.heap[k]? = some (.cells cs 5 (0, 0)))

theorem transcript_nil (w : World) : Calls Tryd.prog 32 #[.pointer none] w fun e w' => e = .returned (.agg #[.slice none 0 0, .bool false]) ∧ Below w.heap.size w w' := by
  go_enter Tryd.func32, Tryd.ntmps32
  go_wp2_with fail
  refine bodyPost_ret (results_cell_row rfl _ _ w.heap.size 63 #[.slice none 0 0, .bool false] (0, 0) _ rfl (heap_alloc_new w _) Tryd.underlying63 rfl (by kernel_rfl)) rfl ?_
  exact ⟨rfl, (Below.refl _ _).alloc (Nat.le_refl _) _⟩

/-- Behind i of the notes. -/
structure Tol (w wr : World) (T : Nat) (o : Bool) (evs : List Ev) (i : Nat) (v : Value) (evl : List (Ev × Value)) (Q : List Nat) : Prop where
  bel : Below w.heap.size w wr
  hT : wr.heap[T]? = some (.cells #[v, .bool o] 63 (0, 0))
  hR : wr.heap[w.heap.size]? = some (.cells #[.slice none 0 0, .bool false] 63 (0, 0))
  row : wr.ownsRow (T + 1) 69 3 v i (evCells evl)
  evq : evl.map Prod.fst = evs.take i
  evd : ∀ x, x ∈ evl → Slc wr Q x.2 x.1.data
  qq : ∀ k, k ∈ Q → T < k ∧ k < wr.heap.size ∧ k ∉ v.ownBlock.toList
  qh : ∀ k, k ∈ Q → ∃ cs, wr.heap[k]? = some (.cells cs 5 (0, 0))

theorem Tol.step {w wr w2 w5 : World} {T : Nat} {o : Bool} {evs : List Ev} {i : Nat} {v v' : Value} {evl : List (Ev × Value)} {Q : List Nat} {e : Ev} {d : Value} {E E' : Nat} {x : Value} {xs : List Value} {ob : Obj} (h : Tol w wr T o evs i v evl Q) (hT : T = w.heap.size + 1)
    (he : evs[i]? = some e) (hE : wr.heap.size = E) (hb2 : Below (wr.alloc ob).heap.size (wr.alloc ob) w2) (hod : w2.ownsRow (wr.alloc ob).heap.size 5 1 d e.data.length (e.data.map fun x => .int .u8 x)) (hd : d.ownBlock.toList = xs.map (fun _ => 0) ∨ True)
    (hx : x = d) (o2 : Obj) (hg : ((w2.setCell ⟨E, 2, none⟩ x).alloc o2).grownBy w5 v.ownBlock) (hrow : w5.ownsRow (T + 1) 69 3 v' (i + 1) (evCells evl ++ [.int .i64 e.dir, .int .i64 e.time, d]))
    (hat : v'.ownBlock = v.ownBlock ∨ v'.ownBlock = some E') (hE' : (w2.setCell ⟨E, 2, none⟩ x).heap.size + 1 = E') :
    ∃ evl' Q', Tol w (w5.setCell ⟨T, 0, none⟩ v') T o evs (i + 1) v' evl' Q' := by
  subst hx
  have hTl : T < wr.heap.size := (Array.getElem?_eq_some_iff.1 h.hT).1
  have b2 : Below wr.heap.size wr (w2.setCell ⟨E, 2, none⟩ x) := (((Below.refl _ wr).alloc (Nat.le_refl _) ob).trans (hb2.mono (by simp))).setCell (by rw [hE]; exact Nat.le_refl _) _
  have b3 : Below wr.heap.size wr ((w2.setCell ⟨E, 2, none⟩ x).alloc o2) := b2.alloc b2.size _
  have hvlt : ∀ k, k ∈ v.ownBlock.toList → T < k ∧ k < wr.heap.size := fun k hk => by have := row_lt h.row k hk; omega
  have hvn : v.ownBlock ≠ some T := fun e => by have := hvlt T (by rw [e]; simp); omega
  have hvn2 : v.ownBlock ≠ some w.heap.size := fun e => by have := hvlt w.heap.size (by rw [e]; simp); omega
  have s2 : wr.heap.size < w2.heap.size := by have := hb2.size; simp at this; omega
  have hT5 : w5.heap[T]? = some (.cells #[v, .bool o] 63 (0, 0)) := (hg.block T (Nat.lt_of_lt_of_le hTl b3.size) (fun e => hvn e.symm)).trans ((b3.block T hTl).trans h.hT)
  have hR5 : w5.heap[w.heap.size]? = some (.cells #[.slice none 0 0, .bool false] 63 (0, 0)) := (hg.block _ (by have := b3.size; omega) (fun e => hvn2 e.symm)).trans ((b3.block _ (by omega)).trans h.hR)
  have hE'5 : E' = w2.heap.size + 1 := by rw [← hE']; simp
  have hv' : ∀ k, k ∈ v'.ownBlock.toList → k ∈ v.ownBlock.toList ∨ k = E' := by
    intro k hk
    rcases hat with hat | hat
    · rw [hat] at hk; exact .inl hk
    · rw [hat] at hk; exact .inr (by simpa using hk)
  have hv'T : ∀ k, k ∈ v'.ownBlock.toList → k ≠ T ∧ k ≠ w.heap.size := by
    intro k hk
    rcases hv' k hk with hk | rfl
    · have := hvlt k hk; omega
    · omega
  have k5 : Keeps v.ownBlock.toList ((w2.setCell ⟨E, 2, none⟩ x).alloc o2) w5 := ⟨hg.os, hg.tape, hg.output, hg.size, fun k hk hn => hg.block k hk (fun e => hn (by rw [← e]; simp))⟩
  have s5 : w2.heap.size ≤ w5.heap.size := by have := hg.size; simp at this; omega
  have hdlt := row_lt hod
  have slc_d : Slc w2 x.ownBlock.toList x e.data := Slc.of_own hod
  have hdE : ∀ k, k ∈ x.ownBlock.toList → k ∉ [E] := fun k hk hm => by
    obtain rfl : k = E := by simpa using hm
    have := (hdlt k hk).1
    simp at this
    omega
  have k2 : Keeps [E] w2 (w2.setCell ⟨E, 2, none⟩ x) := setR_keeps
  have kT : Keeps [T] w5 (w5.setCell ⟨T, 0, none⟩ v') := setR_keeps
  refine ⟨evl ++ [(e, x)], Q ++ x.ownBlock.toList, ?_, ?_, ?_, ?_, ?_, ?_, ?_, ?_⟩
  · refine Below.setCell (Below.trans h.bel ⟨?_, ?_, ?_, ?_, ?_⟩) (by show w.heap.size ≤ T; omega) _
    · exact hg.os.trans b3.os
    · exact hg.tape.trans b3.tape
    · exact hg.output.trans b3.output
    · exact Nat.le_trans b3.size hg.size
    · intro k hk
      exact (hg.block k (by have := b3.size; omega) (fun e => by have := hvlt k (by rw [← e]; simp); omega)).trans (b3.block k (by omega))
  · exact heap_setCell_same w5 T 0 _ _ v' hT5
  · exact (heap_setCell_other _ _ _ _ (by show w.heap.size ≠ T; omega)).trans hR5
  · rw [evCells_append]
    exact row_keeps hrow kT (fun k hk => by simpa using (hv'T k hk).1)
  · rw [List.map_append, h.evq, List.take_add_one, he]
    rfl
  · intro y hy
    rcases List.mem_append.1 hy with hy | hy
    · have h1 := (h.evd y hy).keeps (Keeps.of_below b3 []) (fun _ _ h => by cases h)
      have h2 := h1.keeps k5 (fun k hk => (h.qq k hk).2.2)
      exact (h2.keeps kT (fun k hk => by have := (h.qq k hk).1; simp; omega)).mono (fun k hk => List.mem_append.2 (.inl hk))
    · obtain rfl : y = (e, x) := by simpa using hy
      have h1 := slc_d.keeps k2 hdE
      have h2 := h1.below ((Below.refl _ _).alloc (Nat.le_refl _) o2)
      have h3 := h2.keeps k5 (fun k hk hm => by have := (hdlt k hk).1; have := (hvlt k hm).2; simp at *; omega)
      exact (h3.keeps kT (fun k hk => by have := (hdlt k hk).1; simp at *; omega)).mono (fun k hk => List.mem_append.2 (.inr hk))
  · intro k hk
    rcases List.mem_append.1 hk with hk | hk
    · have h1 := h.qq k hk
      refine ⟨h1.1, by simp; omega, fun hm => ?_⟩
      rcases hv' k hm with hm | rfl
      · exact h1.2.2 hm
      · omega
    · have h1 := hdlt k hk
      simp at h1
      refine ⟨by omega, by simp; omega, fun hm => ?_⟩
      rcases hv' k hm with hm | rfl
      · have := (hvlt k hm).2; omega
      · omega
  · intro k hk
    rcases List.mem_append.1 hk with hk | hk
    · obtain ⟨cs, hc⟩ := h.qh k hk
      have h1 := h.qq k hk
      refine ⟨cs, (kT.block k (by omega) (by simp; omega)).trans ((k5.block k (by have := b3.size; omega) h1.2.2).trans ((b3.block k h1.2.1).trans hc))⟩
    · have h1 := hdlt k hk
      have hne : x.ownBlock = some k := Option.mem_toList.1 hk
      rcases hod.2 with ⟨hz, _⟩ | ⟨g, cap, cur, hz, _, hg2, _⟩
      · rw [hz] at hne; cases hne
      · obtain rfl : g = k := by rw [hz] at hne; exact Option.some.inj hne
        have h2 : (w2.setCell ⟨E, 2, none⟩ x).heap[g]? = some (.cells cur 5 (0, 0)) := (k2.block g h1.2 (hdE g hk)).trans hg2
        have h3 : ((w2.setCell ⟨E, 2, none⟩ x).alloc o2).heap[g]? = some (.cells cur 5 (0, 0)) := (heap_alloc_old _ _ (by simp; omega)).trans h2
        have hs1 := h1.1
        simp at hs1
        exact ⟨cur, (kT.block g (by omega) (by simp; omega)).trans ((k5.block g (by simp; omega) (fun hm => by have := (hvlt g hm).2; omega)).trans h3)⟩

theorem infoE9 : (Tryd.prog.info? 69).map (fun i => (i.zero, i.size, i.bytes)) = some (some (.agg #[.int .i64 0, .int .i64 0, .slice none 0 0]), 3, 40) := by kernel_rfl

theorem row_low {W : World} {base base' sz : Nat} {E : TypeId} {v : Value} {k : Nat} {xs : List Value} (h : W.ownsRow base E sz v k xs) (hb : base' ≤ base) : W.ownsRow base' E sz v k xs := by
  refine ⟨h.1, ?_⟩
  rcases h.2 with ⟨e, hz⟩ | ⟨g, cap, cur, e, hge, rest⟩
  · exact .inl ⟨e, hz⟩
  · exact .inr ⟨g, cap, cur, e, Nat.le_trans hb hge, rest⟩

set_option maxRecDepth 100000 in
set_option maxHeartbeats 4000000 in
theorem transcript_any {w : World} {R : Nat} {ln : Bool → Nat} {N : Nat} {s : RS} {H : List Nat} (h : Rel w R ln N s H) (hdl : ∀ e, e ∈ s.evs → e.data.length ≤ 500000) :
    Calls Tryd.prog 32 #[.pointer (some ⟨R, 0, none⟩)] w fun e w' => ∃ vT, e = .returned (.agg #[vT, .bool (s.o false)]) ∧ Told w' w.heap.size vT s.evs ∧ Below w.heap.size w w' := by
  obtain ⟨Kc, Fs, v, vE, evl, Q, col, rfl, h⟩ := h
  obtain ⟨o, ho⟩ : ∃ o, s.o false = o := ⟨_, rfl⟩
  obtain ⟨B, hB⟩ : ∃ B, w.heap.size = B := ⟨_, rfl⟩
  obtain ⟨n, hn⟩ : ∃ n, s.evs.length = n := ⟨_, rfl⟩
  have hrow := h.row
  have hlen := h.len
  rw [hn] at hrow hlen
  have hvl : evl.length = n := by have := congrArg List.length h.evq; simpa [hn] using this
  obtain ⟨sp, sc, hE, hsc⟩ : ∃ sp sc, vE = .slice sp n sc ∧ (n ≤ sc ∧ ∀ i, i < n → ∃ g, sp = some ⟨g, 0, none⟩ ∧ g < w.heap.size ∧ ∃ (x : Ev × Value), evl[i]? = some x ∧ w.cell? ⟨g, i * 3, none⟩ = some (.int .i64 x.1.dir) ∧ w.cell? ⟨g, i * 3 + 1, none⟩ = some (.int .i64 x.1.time) ∧ w.cell? ⟨g, i * 3 + 2, none⟩ = some x.2) := by
    rcases hrow.2 with ⟨rfl, e⟩ | ⟨g, cap, cur, rfl, _, hg, hnc, _, hcs, htk⟩
    · exact ⟨none, 0, by rw [e], by omega, fun i hi => by omega⟩
    · refine ⟨_, _, rfl, hnc, fun i hi => ⟨g, rfl, (Array.getElem?_eq_some_iff.1 hg).1, evl[i]'(by omega), by simp [show i < evl.length by omega], ?_⟩⟩
      obtain ⟨e0, e1, e2⟩ := evCells_get evl i (by omega)
      have cell : ∀ j u, (evCells evl)[j]? = some u → w.cell? ⟨g, j, none⟩ = some u := by
        intro j u hj
        have hc := hrow.cells (g := g) rfl j u hj
        have hadd : (⟨g, 0, none⟩ : Addr).add j = ⟨g, 0 + j, none⟩ := by unfold Addr.add; split <;> simp_all
        rw [hadd, Nat.zero_add] at hc
        exact hc
      rw [Nat.mul_comm i 3]
      exact ⟨cell _ _ e0, cell _ _ e1, cell _ _ e2⟩
  have c13 : w.cell? ⟨R, 13, none⟩ = some (.slice sp n sc) := by rw [← hE]; exact h.cells 13
  have c5 : w.cell? ⟨R, 5, none⟩ = some (.bool o) := by rw [← ho]; exact h.cells 5
  have hRl := World.block_lt_of_cell? w _ c13
  have HX : Hid (∀ i, i < n → ∃ g, sp = some ⟨g, 0, none⟩ ∧ g < w.heap.size ∧ ∃ (x : Ev × Value), evl[i]? = some x ∧ w.cell? ⟨g, i * 3, none⟩ = some (.int .i64 x.1.dir) ∧ w.cell? ⟨g, i * 3 + 1, none⟩ = some (.int .i64 x.1.time) ∧ w.cell? ⟨g, i * 3 + 2, none⟩ = some x.2) := hsc.2
  have hnc := hsc.1
  have HEQ := Lib.hid h.evq
  have HED : Hid _ := h.evd
  have HDL : Hid _ := hdl
  have HN := Lib.hid hn
  have HVL := Lib.hid hvl
  have hscm : sc ≤ maxLen := by
    rcases hrow.2 with ⟨e1, _⟩ | ⟨g, cap, cur, e1, _, _, _, hcm, _⟩
    · rw [hE] at e1; cases e1; simp [maxLen]
    · rw [hE] at e1; cases e1; exact hcm
  unfold maxLen at hscm
  obtain ⟨i0, hi0, hz0, hz1, hz2⟩ := info_parts infoE9
  rw [ho]
  clear h hrow hE hsc ho hdl hn hvl
  rw [hB] at hRl
  go_enter Tryd.func32, Tryd.ntmps32
  go_wp2_with fail
  have hst : ∃ vT evl' Q', Tol w ((w.alloc (.cells #[.slice none 0 0, .bool false] 63)).alloc (.cells #[.slice none 0 0, .bool o] 63)) (B + 1) o s.evs 0 vT evl' Q' := by
    refine ⟨.slice none 0 0, [], [], ((Below.refl _ w).alloc (Nat.le_refl _) _).alloc (by simp) _, ?_, ?_, World.ownsRow_nil _ _ _ _, rfl, fun x hx => (by cases hx), fun k hk => (by cases hk), fun k hk => (by cases hk)⟩
    · have := heap_alloc_new (w.alloc (.cells #[.slice none 0 0, .bool false] 63)) (.cells #[.slice none 0 0, .bool o] 63)
      rw [World.size_alloc, hB] at this
      exact this
    · exact (heap_alloc_old _ _ (by simp)).trans (heap_alloc_new w _)
  go_loopg [21] n (fun g v21 wr => ∃ i : Nat, i + g = n ∧ v21 = .int .i64 i ∧ ∃ vT evl' Q', Tol w wr (B + 1) o s.evs i vT evl' Q')
  case atStart => exact ⟨0, by omega, rfl, hst⟩
  case round =>
    clear hst
    obtain ⟨i, hi, rfl, vT, evl', Q', hst⟩ := hrel
    have hT0 : wr.cell? ⟨B + 1, 0, none⟩ = some vT := cell_at hst.hT 0
    have hT1 : wr.cell? ⟨B + 1, 1, none⟩ = some (.bool o) := cell_at hst.hT 1
    have hTl : B + 1 < wr.heap.size := World.block_lt_of_cell? wr _ hT0
    obtain ⟨tp, tc, rfl⟩ : ∃ tp tc, vT = .slice tp i tc := by
      rcases hst.row.2 with ⟨rfl, e⟩ | ⟨g, cap, cur, rfl, _⟩
      · exact ⟨none, 0, by rw [e]⟩
      · exact ⟨_, _, rfl⟩
    have HST := Lib.hid hst
    by_cases hlt : i < n
    · obtain ⟨g, rfl, hgl, ⟨⟨dir, time, data⟩, dv⟩, hx, x0, x1, x2⟩ := HX.out i hlt
      have y0 := (hst.bel.cell (p := ⟨g, i * 3, none⟩) hgl).trans x0
      have y1 := (hst.bel.cell (p := ⟨g, i * 3 + 1, none⟩) hgl).trans x1
      have y2 := (hst.bel.cell (p := ⟨g, i * 3 + 2, none⟩) hgl).trans x2
      have hmem := List.mem_of_getElem? hx
      have hsl : Slc w Q dv data := HED.out _ hmem
      have hev : s.evs[i]? = some ⟨dir, time, data⟩ := by rw [← HEQ.out, List.getElem?_map, hx]; rfl
      have hdl : data.length ≤ 500000 := HDL.out _ (List.mem_of_getElem? hev)
      obtain ⟨a, c, rfl, _, _⟩ := hsl.form
      obtain ⟨k, hk⟩ : ∃ k, data.length = k := ⟨_, rfl⟩
      rw [hk] at y2 hsl
      obtain ⟨E, hE⟩ : ∃ E, wr.heap.size = E := ⟨_, rfl⟩
      have hTE : B + 1 < E := by omega
      have hbA : Below wr.heap.size wr (wr.alloc (.cells #[.int .i64 dir, .int .i64 time, .slice a k c] 69)) := (Below.refl _ _).alloc (Nat.le_refl _) _
      have HSA : Hid (Slc (wr.alloc (.cells #[.int .i64 dir, .int .i64 time, .slice a k c] 69)) Q (.slice a k c) data) := (hsl.below hst.bel).below hbA
      have HEV := Lib.hid hev
      have HKK := Lib.hid hk
      have HDD := Lib.hid hdl
      clear hst x0 x1 x2 hx hmem hsl hev hbA hk hdl
      go_wp2_with fail
      refine (clone_any HSA.out HDD.out).mono ?_
      rintro e w2 ⟨d', rfl, hown2, hb2⟩
      have hown3 := hown2
      rw [HKK.out] at hown2
      obtain ⟨da, dc, rfl⟩ := own_form hown2
      have hE2 : w2.heap[E]? = some (.cells #[.int .i64 dir, .int .i64 time, .slice a k c] 69 (0, 0)) := (hb2.block E (by simp; omega)).trans (by rw [← hE]; exact heap_alloc_new wr _)
      have hT2 : w2.heap[B + 1]? = some (.cells #[.slice tp i tc, .bool o] 63 (0, 0)) := (hb2.block (B + 1) (by simp; omega)).trans ((heap_alloc_old _ _ hTl).trans HST.out.hT)
      have e0 : w2.cell? ⟨E, 0, none⟩ = some (.int .i64 dir) := cell_at hE2 0
      have e1 : w2.cell? ⟨E, 1, none⟩ = some (.int .i64 time) := cell_at hE2 1
      have e2 : w2.cell? ⟨E, 2, none⟩ = some (.slice a k c) := cell_at hE2 2
      have ef : w2.frozen? ⟨E, 2, none⟩ = false := frozen_of_row _ _ _ _ _ hE2
      have t0 : w2.cell? ⟨B + 1, 0, none⟩ = some (.slice tp i tc) := cell_at hT2 0
      have hs2 : E < w2.heap.size := by have := hb2.size; simp at this; omega
      have HOW : Hid (∀ o2, ((w2.setCell ⟨E, 2, none⟩ (.slice da k dc)).alloc o2).ownsRow (B + 1 + 1) 69 3 (.slice tp i tc) i (evCells evl')) := fun o2 =>
        row_keeps HST.out.row (Keeps.of_below ((((((Below.refl _ wr).alloc (Nat.le_refl _) _).trans (hb2.mono (by simp))).setCell (p := ⟨E, 2, none⟩) (by show wr.heap.size ≤ E; omega) _).alloc (by simp; omega) o2)) []) (fun _ _ h => by cases h)
      have HT2 := Lib.hid hT2
      have HOWN := Lib.hid hown3
      have HB2 := Lib.hid hb2
      clear hown2 hown3 hE2 hT2 hb2 hT0 hT1 HSA
      go_wp2_with (at_builtin; refine wpList_append_lies _ rfl _ _ 61 rfl (B + 1 + 1) 69 i0 _ 3 40 Tryd.underlying61 hi0 hz0 hz1 hz2 rfl (by omega) _ _ _ rfl (HOW.out _) ⟨w2.heap.size, 0, none⟩ 1 1 [.int .i64 dir, .int .i64 time, .slice da k dc] rfl rfl (World.news_of_block (cs := #[.int .i64 dir, .int .i64 time, .slice da k dc]) (t := 69) (fr := (0, 0)) (by have h := heap_alloc_new (w2.setCell ⟨E, 2, none⟩ (.slice da k dc)) (.cells #[.int .i64 dir, .int .i64 time, .slice da k dc] 69); simpa using h)) (by intro u hu; simp at hu; rcases hu with rfl | rfl | rfl <;> rfl) (by omega) (by unfold maxLen; omega) (by omega) (by simp; omega) (w2.heap.size + 1) (by simp) ?_; intro g5 cap5 w5 hown5 hgrow5 hat5 hlt5; have hne5 : (Value.slice tp i tc).ownBlock ≠ some (B + 1) := (fun e => by have := (row_lt HST.out.row (B + 1) (by rw [e]; simp)).1; omega); have hT5 : w5.heap[B + 1]? = some (.cells #[.slice tp i tc, .bool o] 63 (0, 0)) := (hgrow5.block (B + 1) (by simp; omega) (fun e => hne5 e.symm)).trans ((heap_alloc_old _ _ (by simp; omega)).trans ((heap_setCell_other _ _ _ _ (by show B + 1 ≠ E; omega)).trans HT2.out)); have u0 : w5.cell? ⟨B + 1, 0, none⟩ = some (.slice tp i tc) := cell_at hT5 0; have uf : w5.frozen? ⟨B + 1, 0, none⟩ = false := frozen_of_row _ _ _ _ _ hT5; have HO5 := Lib.hid hown5; have HG5 := Lib.hid hgrow5; have HA5 := Lib.hid hat5; clear hown5 hgrow5 hat5 hT5 hne5)
      go_roundg (n - (i + 1))
      case measure => omega
      case rel =>
        refine ⟨i + 1, by omega, by go_num, .slice (some ⟨g5, 0, none⟩) (i + 1) cap5, ?_⟩
        have hat : (Value.slice (some ⟨g5, 0, none⟩) (i + 1) cap5).ownBlock = (Value.slice tp i tc).ownBlock ∨ (Value.slice (some ⟨g5, 0, none⟩) (i + 1) cap5).ownBlock = some (w2.heap.size + 1) := by
          rcases HA5.out with h | h
          · exact .inl h.symm
          · exact .inr (by rw [h]; rfl)
        exact HST.out.step (e := ⟨dir, time, data⟩) (d := .slice da k dc) (xs := []) (ob := .cells #[.int .i64 dir, .int .i64 time, .slice a k c] 69) (by rw [hB]) HEV.out hE HB2.out HOWN.out (.inr trivial) rfl _ HG5.out HO5.out hat (by simp)
    · have hin : i = n := by omega
      subst hin
      have hR0 : wr.cell? ⟨B, 0, none⟩ = some (.slice none 0 0) := by rw [← hB]; exact cell_at hst.hR 0
      have hR1 : wr.cell? ⟨B, 1, none⟩ = some (.bool false) := by rw [← hB]; exact cell_at hst.hR 1
      have hRf0 : wr.frozen? ⟨B, 0, none⟩ = false := by rw [← hB]; exact frozen_of_row _ _ _ _ _ hst.hR
      have hRf1 : wr.frozen? ⟨B, 1, none⟩ = false := by rw [← hB]; exact frozen_of_row _ _ _ _ _ hst.hR
      have HST := Lib.hid hst
      clear hst
      go_wp2_with fail
      have hBT : B ∉ (Value.slice tp i tc).ownBlock.toList := fun hm => by have := (row_lt HST.out.row B hm).1; omega
      have hB0 : wr.heap[B]? = some (.cells #[.slice none 0 0, .bool false] 63 (0, 0)) := by rw [← hB]; exact HST.out.hR
      have hB2 := heap_setCell_same _ B 1 _ _ (.bool o) (heap_setCell_same wr B 0 _ _ (.slice tp i tc) hB0)
      refine bodyPost_ret (results_cell_row rfl _ _ B 63 #[.slice tp i tc, .bool o] (0, 0) _ rfl hB2 Tryd.underlying63 rfl (by kernel_rfl)) rfl ?_
      have k1 : Keeps [B] wr ((wr.setCell ⟨B, 0, none⟩ (.slice tp i tc)).setCell ⟨B, 1, none⟩ (.bool o)) := setR_keeps.trans setR_keeps (fun _ h => .inl h)
      have hel := HEQ.out
      refine ⟨_, rfl, ⟨evl', Q', ?_, ?_, ?_, ?_⟩, ?_⟩
      · rw [HN.out]
        exact row_low (row_keeps HST.out.row k1 (fun k hk => by
          have := (row_lt HST.out.row k hk).1
          simp; omega)) (by omega)
      · rw [HST.out.evq, List.take_of_length_le (by rw [HN.out]; exact Nat.le_refl _)]
      · exact fun x hx => (HST.out.evd x hx).keeps k1 (fun k hk => by have := (HST.out.qq k hk).1; simp; omega)
      · exact fun k hk => ⟨by have := (HST.out.qq k hk).1; omega, (HST.out.qq k hk).2.2, (HST.out.qh k hk).imp fun cs hc => (k1.block k (HST.out.qq k hk).2.1 (by have := (HST.out.qq k hk).1; simp; omega)).trans hc⟩
      · have hb := HST.out.bel
        rw [hB] at hb
        rw [hB]; exact (hb.setCell (p := ⟨B, 0, none⟩) (Nat.le_refl B) _).setCell (p := ⟨B, 1, none⟩) (Nat.le_refl B) _

end Go.Proofs.YthpdphbppapkhaaDoor
