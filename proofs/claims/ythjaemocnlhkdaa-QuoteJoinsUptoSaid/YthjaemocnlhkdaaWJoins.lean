/-
  The walk of QuoteJoins. Condition: both rows of bytes together are at most 1048576.
-/
import Derived.Test.YthjaemocnlhkdaaAlive
import Derived.Test.YthjaemocnlhkdaaLaw
import Derived.Deep.DeepCutAuto
import Derived.Deep.RegionHeld3
import Derived.Maps.AppendAt
import Derived.Laws.AppendOwnNone
namespace Go.Proofs.Ythjaemocnlhkdaa.quoteJoins
open Go.RowKit

attribute [local go_sem] Oper.semAt_some

theorem str_eq {a b : ByteArray} (h : a.data.toList = b.data.toList) : a = b := by
  apply ByteArray.ext
  exact Array.toList_inj.1 h

/-- What is quoted, without its ends. -/
theorem quoted (l : List UInt8) : ∃ (q : ByteArray) (m : Nat), Hid (q = ⟨(quoteL l).toArray⟩) ∧ m ≤ 4 * l.length ∧ q.size = m + 2 ∧
    Hid ((q.extract 0 (m + 1)).data.toList = (quoteL l).dropLast) ∧ Hid ((q.extract 1 (m + 2)).data.toList = (quoteL l).tail) := by
  have hs : (quoteL l).length = (l.flatMap q1).length + 2 := by simp [quoteL]
  refine ⟨_, _, rfl, flat_le l, by rw [str_size, hs], ?_, ?_⟩
  · show _ = _
    simp [-List.length_flatMap, ByteArray.data_extract, List.dropLast_eq_take, hs]
  · show _ = _
    simp [-List.length_flatMap, ByteArray.data_extract]
    rw [List.take_of_length_le (by simp [-List.length_flatMap]; omega)]

theorem run_none {P : Program} {w : World} (base : Nat) (t ty e : TypeId) (i : TypeInfo) (size : Nat) (ht : P.underlying t = some (.slice e)) (hi : P.info? e = some i)
    (v : Value) (n c : Nat) (xs : List Value) (hown : w.ownsRow base e size v n xs) :
    (Builtin.append_ #[t, t] ty #[v, .slice none 0 c]).run P w = .ok v w := by
  rcases hown.2 with ⟨rfl, rfl⟩ | ⟨g, cap, cur, rfl, _, _, hnc, _⟩
  · simp [Builtin.append_, run_underlying ht, sizeOf, typeInfo, hi, Builtin.lenOf, Builtin.firstCells]
  · simp [Builtin.append_, run_underlying ht, sizeOf, typeInfo, hi, Builtin.lenOf, Builtin.firstCells, hnc, storeCells]

theorem run_app {w : World} (ty : TypeId) (base : Nat) (v : Value) (xs ys : List UInt8) (hown : OwnB w base v xs) (sp : Option Addr) (m c : Nat) (hy : IsBytes w sp m c ys) (hb : xs.length + m ≤ 2000000) (hbase : base ≤ w.heap.size) :
    ∃ v' w', (Builtin.append_ #[22, 22] ty #[v, .slice sp m c]).run Try.prog w = .ok v' w' ∧ OwnB w' base v' (xs ++ ys) ∧ w.grownBy w' v.ownBlock := by
  obtain ⟨i0, hi, hz0, hz1, hz2⟩ := info_parts infoByte
  obtain ⟨_, _, hym, hyc⟩ := hy
  have none_case : m = 0 → ys = [] := fun h => List.eq_nil_of_length_eq_zero (by omega)
  cases sp with
  | none =>
    have hm : m = 0 := by
      rcases Nat.eq_zero_or_pos m with h | h
      · exact h
      · obtain ⟨_, _, e, _⟩ := hyc 0 h
        cases e
    have hys := none_case hm
    subst hm hys
    refine ⟨v, w, run_none base 22 ty 5 i0 1 Try.underlying22 hi v xs.length c _ hown, by rw [List.append_nil]; exact hown, ⟨rfl, rfl, rfl, Nat.le_refl _, fun _ _ _ => rfl⟩⟩
  | some a =>
    have hnews : ∀ j u, (Lib.byteCells ys)[j]? = some u → w.cell? (a.add j) = some u := by
      intro j u hj
      have hjm : j < ys.length := by
        have := (List.getElem?_eq_some_iff.1 hj).1
        simpa [Lib.byteCells] using this
      obtain ⟨b, off, e, _, h⟩ := hyc j (by omega)
      obtain rfl : a = ⟨b, off, none⟩ := by simpa using e
      have hadd : (⟨b, off, none⟩ : Addr).add j = ⟨b, off + j, none⟩ := by unfold Addr.add; split <;> simp_all
      rw [hadd, h]
      simp [Lib.byteCells, hjm] at hj
      simp [← hj, List.getD_eq_getElem?_getD, hjm]
    have h1 : ∀ u ∈ Lib.byteCells ys, u.oneCell' = true := by
      intro u hu
      obtain ⟨x, _, rfl⟩ := List.mem_map.1 hu
      rfl
    obtain ⟨v', w', hr, ho, hg, _, _⟩ := run_append_own_at (P := Try.prog) w base 22 ty 5 i0 (.int .u8 0) 1 1 Try.underlying22 hi hz0 hz1 hz2 rfl (by decide) v xs.length _ hown a m c _ (by simpa [Lib.byteCells] using hym) hnews h1 (by simp only [maxLen]; omega) (by omega) hbase
    refine ⟨v', w', hr, ?_, hg⟩
    unfold OwnB
    rw [List.length_append, Lib.byteCells_append, hym]
    exact ho

/-- At a step of a region that draws. -/
theorem step_app {w : World} {ops : Array Oper} {o : Oper} {a : Act} {K : Act → World → Prop} {Q : Exit → Act → World → Prop} {E : Prop} (s x : Operand)
    (ho : o.op = .call { callee := .builtin .append, args := #[s, x], argTypes := #[22, 22] }) (hw : Region.wanted o (yielded ops a.tmps) = true) (base : Nat) (v : Value) (xs ys : List UInt8) (hs : a.eval s = v) (hown : OwnB w base v xs)
    (sp : Option Addr) (m c : Nat) (hx : a.eval x = .slice sp m c) (hy : IsBytes w sp m c ys) (hb : xs.length + m ≤ 2000000) (hbase : base ≤ w.heap.size)
    (h : ∀ v' w', OwnB w' base v' (xs ++ ys) → w.grownBy w' v.ownBlock → K (a.put o.dst v') w') :
    if Region.wanted o (yielded ops a.tmps) = true then Oper.wp Try.prog o a w K Q else E := by
  rw [if_pos hw]
  obtain ⟨v', w', hr, h2, h3⟩ := run_app o.type base v xs ys hown sp m c hy hb hbase
  unfold Oper.wp execOp
  simp only [ho, resolve, invoke, builtin, Sem.run_bind, Sem.run_pure, Result.andThen_ok, List.map_toArray, List.map_cons, List.map_nil, hs, hx, hr]
  exact h v' w' h2 h3

/-- No bytes, in a block just made. -/
theorem own_new (w : World) (B : Nat) (h : B ≤ w.heap.size) : OwnB (w.alloc (.cells #[] 5)) B (.slice (some ⟨w.heap.size, 0, none⟩) 0 0) [] :=
  ⟨rfl, .inr ⟨w.heap.size, 0, #[], rfl, h, heap_alloc_new w _, Nat.le_refl _, by simp [maxLen], rfl, rfl⟩⟩

/-- What one owns reads as bytes. -/
theorem OwnB.bytes {w : World} {B : Nat} {v : Value} {l : List UInt8} (h : OwnB w B v l) : ∃ sp c, v = .slice sp l.length c ∧ IsBytes w sp l.length c l := by
  rcases h.2 with ⟨rfl, hz⟩ | ⟨g, cap, cur, rfl, hBg, hg, hnc, hcm, rest⟩
  · have hx : l = [] := List.eq_nil_of_length_eq_zero hz
    subst hx
    exact ⟨none, 0, rfl, Nat.le_refl _, by simp [maxLen], rfl, fun j hj => by simp at hj⟩
  · refine ⟨some ⟨g, 0, none⟩, cap, rfl, hnc, hcm, rfl, fun j hj => ⟨g, 0, rfl, (Array.getElem?_eq_some_iff.1 hg).1, ?_⟩⟩
    have hc := h.cells (g := g) rfl j (.int .u8 ((l.getD j 0).toNat : Int)) (by simp [Lib.byteCells, hj])
    have hadd : (⟨g, 0, none⟩ : Addr).add j = ⟨g, 0 + j, none⟩ := by unfold Addr.add; split <;> simp_all
    rwa [hadd] at hc

theorem OwnB.lt {w : World} {B : Nat} {v : Value} {l : List UInt8} (h : OwnB w B v l) (k : Nat) (hk : v.ownBlock = some k) : B ≤ k := by
  rcases h.2 with ⟨rfl, hz⟩ | ⟨g, cap, cur, rfl, hBg, _⟩
  · cases hk
  · have : g = k := by simpa [Value.ownBlock] using hk
    omega

theorem below_drewN {B : Nat} {w w' : World} (h : Below B w w') (k : Nat) : Below B w (w'.drewN k) := ⟨h.os, h.tape, h.output, h.size, h.block⟩

set_option maxRecDepth 100000 in
set_option maxHeartbeats 2000000 in
theorem walk (a : Option Addr) (n cap : Nat) (l : List UInt8) (a2 : Option Addr) (n2 cap2 : Nat) (l2 : List UInt8) (w : World) (h : IsBytes w a n cap l) (hn : n + n2 ≤ 1048576) (h2 : IsBytes w a2 n2 cap2 l2) :
    Calls Try.prog 6 #[.slice a n cap, .slice a2 n2 cap2] w fun e w' => e = .returned (.bool true) ∧ Below w.heap.size w w' := by
  obtain ⟨B, hB⟩ : ∃ B, w.heap.size = B := ⟨_, rfl⟩
  have H := Lib.hid h
  have H2 := Lib.hid h2
  have hln := h.2.2.1
  have hln2 := h2.2.2.1
  obtain ⟨q, m, hq, hfl, hsz, hd, ht⟩ := quoted l
  obtain ⟨q2, m2, hq2, hfl2, hsz2, hd2, ht2⟩ := quoted l2
  obtain ⟨q3, m3, hq3, hfl3, hsz3, hd3, ht3⟩ := quoted (l ++ l2)
  have HQ : Hid (Calls Try.prog 14 #[.slice a n cap] w fun e w' => e = .returned (.string q) ∧ Below w.heap.size w w') := by
    rw [hq.out]
    exact quote_any a n cap l w h (by omega)
  have HQ2 : Hid (∀ w : World, IsBytes w a2 n2 cap2 l2 → Calls Try.prog 14 #[.slice a2 n2 cap2] w fun e w' => e = .returned (.string q2) ∧ Below w.heap.size w w') := by
    intro w h
    rw [hq2.out]
    exact quote_any a2 n2 cap2 l2 w h (by omega)
  have HQ3 : Hid (∀ (w : World) sp c, IsBytes w sp (n + n2) c (l ++ l2) → Calls Try.prog 14 #[.slice sp (n + n2) c] w fun e w' => e = .returned (.string q3) ∧ Below w.heap.size w w') := by
    intro w sp c h
    rw [hq3.out]
    exact quote_any sp (n + n2) c (l ++ l2) w h (by omega)
  have HJ : Hid (q.extract 0 (m + 1) ++ q2.extract 1 (m2 + 2) = q3) := by
    show _ = _
    apply str_eq
    have e : (q.extract 0 (m + 1) ++ q2.extract 1 (m2 + 2)).data.toList = (q.extract 0 (m + 1)).data.toList ++ (q2.extract 1 (m2 + 2)).data.toList := by simp
    rw [e, hd.out, ht2.out, hq3.out, ← quote_joins]
  have hw1 : IntKind.i64.wrap ((m : Int) + 2 - 1) = (m : Int) + 1 := by rw [IntWalk.i64_in _ (by omega)]; omega
  have hs1 : (q.extract 0 (m + 1)).size = m + 1 := by rw [ByteArray.size_extract]; omega
  have hs2 : (q2.extract 1 (m2 + 2)).size = m2 + 1 := by rw [ByteArray.size_extract]; omega
  clear h h2 hq hq2 hq3 hd ht hd2 ht2 hd3 ht3 hfl3 hsz3
  go_enter Try.func6, Try.ntmps6
  go_wp2_with fail
  refine Calls.mono HQ.out ?_
  rintro e w1 ⟨rfl, hb1⟩
  have HB1 := Lib.hid hb1
  clear hb1 HQ
  go_wp2_with fail
  refine Calls.mono (HQ2.out w1 (H2.out.below HB1.out)) ?_
  rintro e w4 ⟨rfl, hb4⟩
  have HB4 := Lib.hid (HB1.out.trans (hb4.mono HB1.out.size))
  clear hb4 HB1 HQ2
  have HB5 := Lib.hid (below_drewN HB4.out 1)
  clear HB4
  have HAL := Lib.hid (alive_any (w4.drewN 1))
  go_wp2_with fail
  refine wp_region_noPanic ?_
  refine wp_region_held_drew (S := fun _ => True) (by kernel_rfl) (trivial) (fun hHeld => ?_)
  refine wpAnyH_ready (rs := [0]) (by kernel_rfl) (by simp) (AllReadyH.cons (o := ⟨some 19, _, _, _, _, _⟩) rfl (fun K hK => ?_) AllReadyH.nil)
  go_simp
  refine Calls.mono HAL.out ?_; rintro e w5 ⟨rfl, hb5⟩; have HB6 := Lib.hid (HB5.out.trans (hb5.mono HB5.out.size)); clear hb5 HB5 HAL
  refine hK.out _ _ (trivial) (fun hHeld => ?_)
  clear hK K
  try simp only [Act.put, List.setIfInBounds_toArray, List.set_cons_zero, List.set_cons_succ]
  refine wpAnyH_take (i := 1) (oi := ⟨some 20, _, _, _, _, _⟩) (v := ?_) rfl (by kernel_rfl) (by kernel_rfl) (by kernel_rfl) (fun _ _ _ h => h) (Or.inl ⟨by rfl, ?_⟩) trivial ?_
  rotate_left
  · intro w hSw; (try dsimp only at hSw); go_simp; try with_reducible rfl
  try simp only [Act.put, List.setIfInBounds_toArray, List.set_cons_zero, List.set_cons_succ]
  refine wpAnyH_take (i := 3) (oi := ⟨some 22, _, _, _, _, _⟩) (v := ?_) rfl (by kernel_rfl) (by kernel_rfl) (by kernel_rfl) (fun _ _ _ h => h) (Or.inl ⟨by rfl, ?_⟩) trivial ?_
  rotate_left
  · intro w hSw; (try dsimp only at hSw); go_simp; try with_reducible rfl
  try simp only [Act.put, List.setIfInBounds_toArray, List.set_cons_zero, List.set_cons_succ]
  refine wpAnyH_take (i := 5) (oi := ⟨some 24, _, _, _, _, _⟩) (v := ?_) rfl (by kernel_rfl) (by kernel_rfl) (by kernel_rfl) (fun _ _ _ h => h) (Or.inl ⟨by rfl, ?_⟩) trivial ?_
  rotate_left
  · intro w hSw; (try dsimp only at hSw); go_simp; try with_reducible rfl
  try simp only [Act.put, List.setIfInBounds_toArray, List.set_cons_zero, List.set_cons_succ]
  refine wpAnyH_take (i := 8) (oi := ⟨some 27, _, _, _, _, _⟩) (v := ?_) rfl (by kernel_rfl) (by kernel_rfl) (by kernel_rfl) (fun _ _ _ h => h) (Or.inl ⟨by rfl, ?_⟩) trivial ?_
  rotate_left
  · intro w hSw; (try dsimp only at hSw); go_simp; try with_reducible rfl
  try simp only [Act.put, List.setIfInBounds_toArray, List.set_cons_zero, List.set_cons_succ]
  refine wpAnyH_take (i := 9) (oi := ⟨some 28, _, _, _, _, _⟩) (v := ?_) rfl (by kernel_rfl) (by kernel_rfl) (by kernel_rfl) (fun _ _ _ h => h) (Or.inl ⟨by rfl, ?_⟩) trivial ?_
  rotate_left
  · intro w hSw; (try dsimp only at hSw); go_simp; try with_reducible rfl
  try simp only [Act.put, List.setIfInBounds_toArray, List.set_cons_zero, List.set_cons_succ]
  refine wpAnyH_take (i := 10) (oi := ⟨some 29, _, _, _, _, _⟩) (v := ?_) rfl (by kernel_rfl) (by kernel_rfl) (by kernel_rfl) (fun _ _ _ h => h) (Or.inl ⟨by rfl, ?_⟩) trivial ?_
  rotate_left
  · intro w hSw; (try dsimp only at hSw); go_simp; try with_reducible rfl
  try simp only [Act.put, List.setIfInBounds_toArray, List.set_cons_zero, List.set_cons_succ]
  refine wpAnyH_take (i := 11) (oi := ⟨some 30, _, _, _, _, _⟩) (v := .int .i64 ((m : Int) + 1)) rfl (by kernel_rfl) (by kernel_rfl) (by kernel_rfl) (fun _ _ _ h => h) (Or.inl ⟨by rfl, ?_⟩) trivial ?_
  · intro w hSw; go_simp
  try simp only [Act.put, List.setIfInBounds_toArray, List.set_cons_zero, List.set_cons_succ]
  refine wpAnyH_take (i := 12) (oi := ⟨some 31, _, _, _, _, _⟩) (v := .string (q.extract 0 (m + 1))) rfl (by kernel_rfl) (by kernel_rfl) (by kernel_rfl) (fun _ _ _ h => h) (Or.inl ⟨by rfl, ?_⟩) trivial ?_
  · intro w hSw; go_simp; intro hneg; exfalso; omega
  try simp only [Act.put, List.setIfInBounds_toArray, List.set_cons_zero, List.set_cons_succ]
  refine wpAnyH_take (i := 13) (oi := ⟨some 32, _, _, _, _, _⟩) (v := ?_) rfl (by kernel_rfl) (by kernel_rfl) (by kernel_rfl) (fun _ _ _ h => h) (Or.inl ⟨by rfl, ?_⟩) trivial ?_
  rotate_left
  · intro w hSw; (try dsimp only at hSw); go_simp; try with_reducible rfl
  try simp only [Act.put, List.setIfInBounds_toArray, List.set_cons_zero, List.set_cons_succ]
  refine wpAnyH_take (i := 14) (oi := ⟨some 33, _, _, _, _, _⟩) (v := .string (q2.extract 1 (m2 + 2))) rfl (by kernel_rfl) (by kernel_rfl) (by kernel_rfl) (fun _ _ _ h => h) (Or.inl ⟨by rfl, ?_⟩) trivial ?_
  · intro w hSw; go_simp; intro hneg; exfalso; omega
  try simp only [Act.put, List.setIfInBounds_toArray, List.set_cons_zero, List.set_cons_succ]
  refine wpAnyH_take (i := 15) (oi := ⟨some 34, _, _, _, _, _⟩) (v := .string q3) rfl (by kernel_rfl) (by kernel_rfl) (by kernel_rfl) (fun _ _ _ h => h) (Or.inl ⟨by rfl, ?_⟩) trivial ?_
  · intro w hSw; go_simp; rw [if_neg (by omega), HJ.out]
  try simp only [Act.put, List.setIfInBounds_toArray, List.set_cons_zero, List.set_cons_succ]
  refine wpAnyH_ready (rs := [2]) (by kernel_rfl) (by simp) (AllReadyH.cons (o := ⟨some 21, _, _, _, _, _⟩) rfl (fun K hK => ?_) AllReadyH.nil)
  go_simp
  have HO := Lib.hid (own_new w5 w5.heap.size (Nat.le_refl _)); have HB7 := Lib.hid (HB6.out.alloc HB6.out.size (.cells #[] 5)); have hs5 : w5.heap.size ≤ (w5.alloc (.cells #[] 5)).heap.size := (by simp); have hB5 := HB6.out.size; generalize w5.heap.size = S at *; generalize w5.alloc (.cells #[] 5) = w7 at *; clear HB6
  refine hK.out _ _ (trivial) (fun hHeld => ?_)
  clear hK K
  try simp only [Act.put, List.setIfInBounds_toArray, List.set_cons_zero, List.set_cons_succ]
  refine wpAnyH_ready (rs := [4]) (by kernel_rfl) (by simp) (AllReadyH.cons (o := ⟨some 23, _, _, _, _, _⟩) rfl (fun K hK => ?_) AllReadyH.nil)
  refine step_app (.tmp 21) (.tmp 22) rfl (by kernel_rfl) S _ [] l rfl HO.out a n cap rfl (H.out.below HB7.out) (by simp; omega) hs5 ?_; intro v8 w8 ho8 hg8; have hb8 := HB7.out.grown hg8 (by omega) (fun k hk => (by have := OwnB.lt HO.out k hk; omega)); have HO8 := Lib.hid ho8; have HB8 := Lib.hid hb8; have hs8 : S ≤ w8.heap.size := (by have := hg8.size; omega); clear ho8 hb8 hg8 HO HB7
  refine hK.out _ _ (trivial) (fun hHeld => ?_)
  clear hK K
  try simp only [Act.put, List.setIfInBounds_toArray, List.set_cons_zero, List.set_cons_succ]
  refine wpAnyH_ready (rs := [6]) (by kernel_rfl) (by simp) (AllReadyH.cons (o := ⟨some 25, _, _, _, _, _⟩) rfl (fun K hK => ?_) AllReadyH.nil)
  refine step_app (.tmp 23) (.tmp 24) rfl (by kernel_rfl) S v8 ([] ++ l) l2 rfl HO8.out a2 n2 cap2 rfl (H2.out.below HB8.out) (by simp; omega) hs8 ?_; intro v9 w9 ho9 hg9; have hb9 := HB8.out.grown hg9 (by omega) (fun k hk => (by have := OwnB.lt HO8.out k hk; omega)); obtain ⟨sp, c, rfl, hby⟩ := OwnB.bytes ho9; have hlen : ([] ++ l ++ l2 : List UInt8).length = n + n2 := (by simp; omega); rw [hlen] at hby ⊢; rw [List.nil_append] at hby; clear hlen; have HQ4 := Lib.hid (HQ3.out w9 sp c hby); have HB9 := Lib.hid hb9; clear ho9 hb9 hg9 HO8 HB8 hby HQ3
  refine hK.out _ _ (trivial) (fun hHeld => ?_)
  clear hK K
  try simp only [Act.put, List.setIfInBounds_toArray, List.set_cons_zero, List.set_cons_succ]
  refine wpAnyH_ready (rs := [7]) (by kernel_rfl) (by simp) (AllReadyH.cons (o := ⟨some 26, _, _, _, _, _⟩) rfl (fun K hK => ?_) AllReadyH.nil)
  go_simp
  refine Calls.mono HQ4.out ?_; rintro e w10 ⟨rfl, hb10⟩; have HB10 := Lib.hid (HB9.out.trans (hb10.mono HB9.out.size)); clear hb10 HB9 HQ4
  refine hK.out _ _ (trivial) (fun hHeld => ?_)
  clear hK K
  try simp only [Act.put, List.setIfInBounds_toArray, List.set_cons_zero, List.set_cons_succ]
  refine wpAnyH_take (i := 16) (oi := ⟨some 35, _, _, _, _, _⟩) (v := ?_) rfl (by kernel_rfl) (by kernel_rfl) (by kernel_rfl) (fun _ _ _ h => h) (Or.inl ⟨by rfl, ?_⟩) trivial ?_
  rotate_left
  · intro w hSw; (try dsimp only at hSw); go_simp; try with_reducible rfl
  try simp only [Act.put, List.setIfInBounds_toArray, List.set_cons_zero, List.set_cons_succ]
  refine wpAnyH_take (i := 17) (oi := ⟨some 36, _, _, _, _, _⟩) (v := ?_) rfl (by kernel_rfl) (by kernel_rfl) (by kernel_rfl) (fun _ _ _ h => h) (Or.inl ⟨by rfl, ?_⟩) trivial ?_
  rotate_left
  · intro w hSw; (try dsimp only at hSw); go_simp; try with_reducible rfl
  try simp only [Act.put, List.setIfInBounds_toArray, List.set_cons_zero, List.set_cons_succ]
  refine wpAnyH_take (i := 18) (oi := ⟨some 4, _, _, _, _, _⟩) (v := ?_) rfl (by kernel_rfl) (by kernel_rfl) (by kernel_rfl) (fun _ _ _ h => h) (Or.inl ⟨by rfl, ?_⟩) trivial ?_
  rotate_left
  · intro w hSw; (try dsimp only at hSw); go_simp; try with_reducible rfl
  try simp only [Act.put, List.setIfInBounds_toArray, List.set_cons_zero, List.set_cons_succ]
  refine wpAnyH_done (by kernel_rfl) ?_ _
  refine NoPanic.normal ?_
  go_wp2_with fail
  go_ret
  exact ⟨rfl, HB10.out⟩

end Go.Proofs.Ythjaemocnlhkdaa.quoteJoins
