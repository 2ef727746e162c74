/-
  The walks of bytes.Clone, the clock and a relay's New, Waits, Done. No condition.
-/
import Derived.Test.YthpdphbppapkhaaDoorRel
import Derived.LaidEqlPtr
import Derived.Lib.LazyBuf
namespace Go.Proofs.YthpdphbppapkhaaDoor
open Go.RowKit qb

theorem infoB5 : (Tryd.prog.info? 5).map (fun i => (i.zero, i.size, i.bytes)) = some (some (.int .u8 0), 1, 1) := by kernel_rfl

theorem run_none22 {P : Program} {w : World} (base : Nat) (t ty e : TypeId) (i : TypeInfo) (size : Nat) (ht : P.underlying t = some (.slice e)) (hi : P.info? e = some i)
    (v : Value) (n c : Nat) (xs : List Value) (hown : w.ownsRow base e size v n xs) :
    (Builtin.append_ #[t, t] ty #[v, .slice none 0 c]).run P w = .ok v w := by
  rcases hown.2 with ⟨rfl, rfl⟩ | ⟨g, cap, cur, rfl, _, _, hnc, _⟩
  · simp [Builtin.append_, run_underlying ht, sizeOf, typeInfo, hi, Builtin.lenOf, Builtin.firstCells]
  · simp [Builtin.append_, run_underlying ht, sizeOf, typeInfo, hi, Builtin.lenOf, Builtin.firstCells, hnc, storeCells]

/-- append to bytes of one's own. -/
theorem run_app5 {w : World} (ty : TypeId) (base : Nat) (v : Value) (xs ys : List Int) (n : Nat) (hown : w.ownsRow base 5 1 v n (xs.map fun x => .int .u8 x)) (Q : List Nat) (sp : Option Addr) (m c : Nat) (hy : Slc w Q (.slice sp m c) ys) (hb : n + m ≤ 1000000) (hbase : base ≤ w.heap.size) :
    ∃ v' w', (Builtin.append_ #[22, 22] ty #[v, .slice sp m c]).run Tryd.prog w = .ok v' w' ∧ w'.ownsRow base 5 1 v' (n + m) ((xs ++ ys).map fun x => .int .u8 x) ∧ w.grownBy w' v.ownBlock := by
  obtain ⟨i0, hi, hz0, hz1, hz2⟩ := info_parts infoB5
  obtain ⟨a', n', c', e', _, _, hym, hyc⟩ := hy
  cases e'
  cases sp with
  | none =>
    have hm : m = 0 := by
      rcases Nat.eq_zero_or_pos m with h | h
      · exact h
      · obtain ⟨_, _, e, _⟩ := hyc 0 h
        cases e
    have hys : ys = [] := List.eq_nil_of_length_eq_zero (by omega)
    subst hm hys
    refine ⟨v, w, run_none22 base 22 ty 5 i0 1 Tryd.underlying22 hi v n c _ hown, by rw [List.append_nil]; exact hown, ⟨rfl, rfl, rfl, Nat.le_refl _, fun _ _ _ => rfl⟩⟩
  | some a =>
    have hnews : ∀ j u, (ys.map fun x => Value.int .u8 x)[j]? = some u → w.cell? (a.add j) = some u := by
      intro j u hj
      have hjm : j < ys.length := by
        have := (List.getElem?_eq_some_iff.1 hj).1
        simpa using this
      obtain ⟨b, off, e, _, _, h⟩ := hyc j (by omega)
      obtain rfl : a = ⟨b, off, none⟩ := by simpa using e
      rw [add_none, h]
      simp [hjm] at hj
      simp [← hj, List.getD_eq_getElem?_getD, hjm]
    have h1 : ∀ u ∈ (ys.map fun x => Value.int .u8 x), u.oneCell' = true := by
      intro u hu
      obtain ⟨x, _, rfl⟩ := List.mem_map.1 hu
      rfl
    obtain ⟨v', w', hr, ho, hg, _, _⟩ := run_append_own_at (P := Tryd.prog) w base 22 ty 5 i0 (.int .u8 0) 1 1 Tryd.underlying22 hi hz0 hz1 hz2 rfl (by decide) v n _ hown a m c _ (by simpa using hym) hnews h1 (by simp only [maxLen]; omega) (by omega) hbase
    refine ⟨v', w', hr, ?_, hg⟩
    rw [List.map_append]
    exact ho

/-- At the operation. -/
theorem wpList_app5 {w : World} {ops : Array Oper} {rest : List Oper} {o : Oper} {a : Go.Act} {Q0 : Exit → Go.Act → World → Prop} (hgd : o.guard = none) (s x : Operand)
    (ho : o.op = .call { callee := .builtin .append, args := #[s, x], argTypes := #[22, 22] }) (base : Nat) (v : Value) (xs ys : List Int) (n : Nat) (hs : a.eval s = v) (hown : w.ownsRow base 5 1 v n (xs.map fun x => .int .u8 x))
    (Q : List Nat) (sp : Option Addr) (m c : Nat) (hx : a.eval x = .slice sp m c) (hy : Slc w Q (.slice sp m c) ys) (hb : n + m ≤ 1000000) (hbase : base ≤ w.heap.size)
    (h : ∀ v' w', w'.ownsRow base 5 1 v' (n + m) ((xs ++ ys).map fun x => .int .u8 x) → w.grownBy w' v.ownBlock → wpList Tryd.prog ops Q0 rest (a.put o.dst v') w') :
    wpList Tryd.prog ops Q0 (o :: rest) a w := by
  refine wpList_plain hgd fun K hK => ?_
  obtain ⟨v', w', hr, h2, h3⟩ := run_app5 o.type base v xs ys n hown Q sp m c hy hb hbase
  unfold Oper.wp execOp
  simp only [ho, resolve, invoke, builtin, Sem.run_bind, Sem.run_pure, Result.andThen_ok, List.map_toArray, List.map_cons, List.map_nil, hs, hx, hr]
  exact hK _ _ (h v' w' h2 h3)

/-- No bytes, in a block just made. -/
theorem own_new5 (w : World) : (w.alloc (.cells #[] 5)).ownsRow w.heap.size 5 1 (.slice (some ⟨w.heap.size, 0, none⟩) 0 0) 0 (([] : List Int).map fun x => .int .u8 x) :=
  ⟨rfl, .inr ⟨w.heap.size, 0, #[], rfl, Nat.le_refl _, heap_alloc_new w _, Nat.le_refl _, by simp [maxLen], rfl, rfl⟩⟩

set_option maxRecDepth 100000 in
set_option maxHeartbeats 1000000 in
theorem clone_any {w : World} {Q : List Nat} {v : Value} {xs : List Int} (h : Slc w Q v xs) (hm : xs.length ≤ 500000) :
    Calls Tryd.prog 53 #[v] w fun e w' => ∃ v', e = .returned v' ∧ w'.ownsRow w.heap.size 5 1 v' xs.length (xs.map fun x => .int .u8 x) ∧ Below w.heap.size w w' := by
  obtain ⟨a, c, rfl, hc1, hc2⟩ := h.form
  obtain ⟨n, hn⟩ : ∃ n, xs.length = n := ⟨_, rfl⟩
  rw [hn] at h hm hc1 ⊢
  have H := Lib.hid h
  have HN := Lib.hid hn
  cases a with
  | none =>
    have hz : n = 0 := by
      obtain ⟨a', n', c', e', _, _, hym, hyc⟩ := h
      cases e'
      rcases Nat.eq_zero_or_pos n with h | h
      · exact h
      · obtain ⟨_, _, e, _⟩ := hyc 0 h; cases e
    subst hz
    have hx : xs = [] := List.eq_nil_of_length_eq_zero hn
    subst hx
    have heq := Lib.run_eql_slice_nil (P := Tryd.prog) w 22 5 none 0 c 0 0 Tryd.underlying22
    clear h hn
    go_enter Tryd.func53, Tryd.ntmps53
    go_wp2_with fail
    go_ret
    exact ⟨_, rfl, World.ownsRow_nil _ _ _ _, Below.refl _ _⟩
  | some x =>
    have heq := Lib.run_eql_slice_nil (P := Tryd.prog) w 22 5 (some x) n c 0 0 Tryd.underlying22
    clear h hn
    go_enter Tryd.func53, Tryd.ntmps53
    go_wp2_with (at_builtin; refine wpList_app5 rfl _ _ rfl w.heap.size _ [] xs 0 rfl (own_new5 w) Q (some x) n c rfl (H.out.below ((Below.refl _ _).alloc (Nat.le_refl _) _)) (by omega) (by simp) ?_; intro v' w5 hown5 hgrow5)
    go_ret
    rw [Nat.zero_add, List.nil_append] at hown5
    exact ⟨_, rfl, hown5, ((Below.refl _ _).alloc (Nat.le_refl _) _).grown hgrow5 (by simp) (fun j hj => by
      have : w.heap.size = j := Option.some.inj hj
      omega)⟩

/-! ### the clock -/
def seeT (t : Int) (ok : Bool) (x : Int) : Int := if ok = false ∨ t < x then x else t

theorem see_any {w : World} {K : Nat} {t : Int} {ok : Bool} (h : w.heap[K]? = some (.cells #[.int .i64 t, .bool ok] 110 (0, 0))) (hck : ok = false → t = 0) (x : Int) :
    Calls Tryd.prog 62 #[.pointer (some ⟨K, 0, none⟩), .int .i64 x] w fun e w' => e = .returned (.int .i64 (seeT t ok x)) ∧ w'.heap[K]? = some (.cells #[.int .i64 (seeT t ok x), .bool true] 110 (0, 0)) ∧ Keeps [K] w w' := by
  have c0 : w.cell? ⟨K, 0, none⟩ = some (.int .i64 t) := cell_at h 0
  have c1 : w.cell? ⟨K, 1, none⟩ = some (.bool ok) := cell_at h 1
  have f0 : w.frozen? ⟨K, 0, none⟩ = false := frozen_of_row _ _ _ _ _ h
  have f1 : w.frozen? ⟨K, 1, none⟩ = false := frozen_of_row _ _ _ _ _ h
  have H : Hid (((w.setCell ⟨K, 0, none⟩ (.int .i64 x)).setCell ⟨K, 1, none⟩ (.bool true)).heap[K]? = some (.cells #[.int .i64 x, .bool true] 110 (0, 0)) ∧ Keeps [K] w ((w.setCell ⟨K, 0, none⟩ (.int .i64 x)).setCell ⟨K, 1, none⟩ (.bool true))) :=
    ⟨heap_setCell_same _ K 1 _ _ _ (heap_setCell_same w K 0 _ _ _ h), setR_keeps.trans setR_keeps (fun _ h => .inl h)⟩
  have H0 := Lib.hid h
  clear h
  cases ok
  · have : t = 0 := hck rfl
    subst this
    have : seeT 0 false x = x := by simp [seeT]
    rw [this]
    clear hck this
    go_enter Tryd.func62, Tryd.ntmps62
    go_wp2_with fail
    go_ret
    exact ⟨rfl, H.out⟩
  · clear hck
    by_cases hlt : t < x
    · have : seeT t true x = x := by simp [seeT, hlt]
      rw [this]
      clear this
      go_enter Tryd.func62, Tryd.ntmps62
      go_wp2_with fail
      go_ret
      exact ⟨rfl, H.out⟩
    · have : seeT t true x = t := by simp [seeT, hlt]
      rw [this]
      clear this H
      go_enter Tryd.func62, Tryd.ntmps62
      go_wp2_with fail
      go_ret
      exact ⟨rfl, H0.out, Keeps.refl _ _⟩

theorem clock_new (w : World) :
    Calls Tryd.prog 56 #[] w fun e w' => e = .returned (.pointer (some ⟨w.heap.size, 0, none⟩)) ∧ w.alloc (.cells #[.int .i64 0, .bool false] 110) = w' := by
  go_enter Tryd.func56, Tryd.ntmps56
  go_wp2
  go_ret
  exact ⟨rfl, rfl⟩

/-! ### a relay's New, Waits, Done -/
theorem relay_nil1 (b : Option Addr) (w : World) : Calls Tryd.prog 40 #[.pointer none, .pointer b] w fun e w' => e = .returned (.tuple #[.pointer none, .int .i64 1]) ∧ w = w' := by
  go_enter Tryd.func40, Tryd.ntmps40
  go_wp2
  go_ret2
  exact ⟨rfl, rfl⟩

theorem relay_nil2 (b : Nat) (w : World) : Calls Tryd.prog 40 #[.pointer (some ⟨b, 0, none⟩), .pointer none] w fun e w' => e = .returned (.tuple #[.pointer none, .int .i64 1]) ∧ w = w' := by
  go_enter Tryd.func40, Tryd.ntmps40
  go_wp2
  go_ret2
  exact ⟨rfl, rfl⟩

theorem size87 : (Tryd.prog.info? 87).map (·.size) = some 2 := by kernel_rfl

theorem eql_same (b : Nat) (w : World) : (binOp .eql 24 (.pointer (some ⟨b, 0, none⟩)) (.pointer (some ⟨b, 0, none⟩))).run Tryd.prog w = .ok (.bool true) w := by
  obtain ⟨j, hj, _⟩ := Option.map_eq_some_iff.1 size87
  exact run_eql_ptr_same w _ Tryd.underlying24 hj

theorem eql_other {a b : Nat} {w : World} {ca cb : Array Value} {ta tb : TypeId} (hne : a ≠ b) (ha : w.heap[a]? = some (.cells ca ta (0, 0))) (hb : w.heap[b]? = some (.cells cb tb (0, 0))) :
    (binOp .eql 24 (.pointer (some ⟨a, 0, none⟩)) (.pointer (some ⟨b, 0, none⟩))).run Tryd.prog w = .ok (.bool false) w := by
  obtain ⟨j, hj, hjs⟩ := Option.map_eq_some_iff.1 size87
  exact run_eql_ptr_other w Tryd.underlying24 hj (by rw [hjs]; decide) (fun e => hne (by injection e)) ha hb

theorem relay_same (b : Nat) (w : World) : Calls Tryd.prog 40 #[.pointer (some ⟨b, 0, none⟩), .pointer (some ⟨b, 0, none⟩)] w fun e w' => e = .returned (.tuple #[.pointer none, .int .i64 2]) ∧ w = w' := by
  have he := eql_same b w
  go_enter Tryd.func40, Tryd.ntmps40
  go_wp2_with fail
  go_ret2
  exact ⟨rfl, rfl⟩

/-- A relay that has done nothing. -/
def rs0 (l : Bool → Line) : RS := ⟨l, fun _ => [], fun _ => false, 0, false, [], 262144⟩

set_option maxRecDepth 100000 in
set_option maxHeartbeats 1000000 in
theorem relay_new {w : World} {ln : Bool → Nat} {Fs : Bool → List Nat} {N : Nat} {l : Bool → Line} (h : ∀ d, IsP w (ln d) (Fs d) N (l d)) (hd : ∀ k, k ∈ Fs true → k ∉ Fs false) (hne : ln true ≠ ln false) :
    Calls Tryd.prog 40 #[.pointer (some ⟨ln true, 0, none⟩), .pointer (some ⟨ln false, 0, none⟩)] w fun e w' => ∃ R H, e = .returned (.tuple #[.pointer (some ⟨R, 0, none⟩), .int .i64 0]) ∧ Rel w' R ln N (rs0 l) H ∧ Below w.heap.size w w' ∧
      w.heap.size ≤ R ∧ R ∈ H ∧ ∀ k, k ∈ H → (∃ d, k ∈ Fs d) ∨ w.heap.size ≤ k := by
  obtain ⟨K, hK⟩ : ∃ K, w.heap.size = K := ⟨_, rfl⟩
  have H := Lib.hid h
  have HD : Hid _ := hd
  obtain ⟨p, hp⟩ : ∃ p, ln true = p := ⟨_, rfl⟩
  obtain ⟨q, hq⟩ : ∃ q, ln false = q := ⟨_, rfl⟩
  have HP := Lib.hid hp
  have HQ := Lib.hid hq
  rw [hp, hq] at hne ⊢
  have heq : (binOp .eql 24 (.pointer (some ⟨p, 0, none⟩)) (.pointer (some ⟨q, 0, none⟩))).run Tryd.prog w = .ok (.bool false) w := by
    obtain ⟨_, _, _, _, _, h1, _⟩ := h true
    obtain ⟨_, _, _, _, _, h2, _⟩ := h false
    rw [hp] at h1
    rw [hq] at h2
    exact eql_other hne h1 h2
  clear h hd hp hq hne
  go_enter Tryd.func40, Tryd.ntmps40
  go_wp2_with fail
  refine (clock_new w).mono ?_
  rintro e w1 ⟨rfl, rfl⟩
  go_wp2_with fail
  go_ret2
  have hlt : ∀ d k, k ∈ Fs d → k < K := fun d k hk => by rw [← hK]; exact (H.out d).lt k hk
  have hb : Below w.heap.size w ((w.alloc (.cells #[.int .i64 0, .bool false] 110)).alloc (.cells (relCells ln (fun _ => .slice none 0 0) (fun _ => false) K (.slice none 0 0) 262144) 100)) :=
    ((Below.refl _ w).alloc (Nat.le_refl _) _).alloc (by simp) _
  have hz := (H.out true).zero
  have hz2 := (H.out false).zero
  have hzp := (H.out true).oth.pos
  refine ⟨K + 1, RelH Fs (K + 1) K (.slice none 0 0) [], rfl, ⟨K, Fs, fun _ => .slice none 0 0, .slice none 0 0, [], [], fun k => if k ∈ Fs true then 1 else if k ∈ Fs false then 2 else if k = K + 1 then 3 else if k = K then 4 else 0, rfl, ?_⟩, ?_, by omega, mem_relH.2 (.inr (.inl rfl)), ?_⟩
  · rw [← HP.out, ← HQ.out]
    exact {
      hl := fun d => (H.out d).below hb (Nat.le_refl _)
      hR := by
        have := heap_alloc_new (w.alloc (.cells #[.int .i64 0, .bool false] 110)) (.cells (relCells ln (fun _ => .slice none 0 0) (fun _ => false) K (.slice none 0 0) 262144) 100)
        rw [World.size_alloc, hK] at this
        exact this
      hK := by
        have : (w.alloc (.cells #[.int .i64 0, .bool false] 110)).heap[K]? = some (.cells #[.int .i64 0, .bool false] 110 (0, 0)) := by rw [← hK]; exact heap_alloc_new w _
        exact (heap_alloc_old _ _ (by simp; omega)).trans this
      hw := fun d => .nil _ _
      row := World.ownsRow_nil _ _ _ _
      evq := rfl
      evd := fun x hx => by cases hx
      c0 := by
        have h3 : ¬ (0 = K) := by omega
        simp [hz, hz2, h3]
      cF := fun d k hk => by
        cases d
        · have : k ∉ Fs true := fun h => HD.out k h hk
          simp [this, hk, lc]
        · simp [hk, lc]
      cR := by
        have h1 : K + 1 ∉ Fs true := fun h => by have := hlt true _ h; omega
        have h2 : K + 1 ∉ Fs false := fun h => by have := hlt false _ h; omega
        simp [h1, h2]
      cK := by
        have h1 : K ∉ Fs true := fun h => by have := hlt true _ h; omega
        have h2 : K ∉ Fs false := fun h => by have := hlt false _ h; omega
        simp [h1, h2]
      cE := fun k hk => by cases hk
      cQ := fun k hk => by cases hk
      qlt := fun k hk => by cases hk
      len := by simp [rs0]
      lf := by simp [rs0]
      ck := fun _ => rfl }
  · rw [← HP.out, ← HQ.out]
    rw [← hK] at hb ⊢
    exact hb
  · intro k hk
    rcases mem_relH.1 hk with h | rfl | rfl | h | h
    · exact .inl h
    · exact .inr (by omega)
    · exact .inr (by omega)
    · cases h
    · cases h

/-- The cells of a relay. -/
theorem RelAt.cells {w : World} {R : Nat} {ln : Bool → Nat} {N : Nat} {s : RS} {K : Nat} {Fs : Bool → List Nat} {v : Bool → Value} {vE : Value} {evl : List (Ev × Value)} {Q : List Nat} {col : Nat → Nat} (h : RelAt w R ln N s K Fs v vE evl Q col) (j : Nat) : w.cell? ⟨R, j, none⟩ = (relCells ln v s.o K vE s.left)[j]? := cell_at h.hR j

section
variable {w : World} {R : Nat} {ln : Bool → Nat} {N : Nat} {s : RS} {H : List Nat}

theorem relay_waits (h : Rel w R ln N s H) (d : Bool) (side : Int) (hs : sd d = side) (k : Nat) (hk : (s.w d).length = k) :
    Calls Tryd.prog 37 #[.pointer (some ⟨R, 0, none⟩), .int .i64 side] w fun e w' => e = .returned (.int .i64 k) ∧ w = w' := by
  obtain ⟨K, Fs, v, vE, evl, Q, col, rfl, h⟩ := h
  obtain ⟨a, c, hv, _, _⟩ := (h.hw d).form
  rw [hk] at hv
  have c4 : w.cell? ⟨R, 4, none⟩ = some (v false) := h.cells 4
  have c10 : w.cell? ⟨R, 10, none⟩ = some (v true) := h.cells 10
  clear h
  cases d
  · rw [hv] at c4
    simp only [sd, Bool.false_eq_true, if_false] at hs
    subst hs
    go_enter Tryd.func37, Tryd.ntmps37
    go_wp2_with fail
    go_ret
    exact ⟨rfl, rfl⟩
  · rw [hv] at c10
    simp only [sd, if_true] at hs
    subst hs
    go_enter Tryd.func37, Tryd.ntmps37
    go_wp2_with fail
    go_ret
    exact ⟨rfl, rfl⟩

theorem relay_waits_bad (pt : Option Addr) (side : Int) (h : pt = none ∨ side < 0 ∨ 2 ≤ side) (w : World) :
    Calls Tryd.prog 37 #[.pointer pt, .int .i64 side] w fun e w' => e = .returned (.int .i64 0) ∧ w = w' := by
  cases pt with
  | none =>
    go_enter Tryd.func37, Tryd.ntmps37
    go_wp2
    go_ret
    exact ⟨rfl, rfl⟩
  | some a =>
    rcases h with h | h | h
    · cases h
    · go_enter Tryd.func37, Tryd.ntmps37
      go_wp2
      go_ret
      exact ⟨rfl, rfl⟩
    · have h' : ¬ side < 0 := by omega
      go_enter Tryd.func37, Tryd.ntmps37
      go_wp2
      go_ret
      exact ⟨rfl, rfl⟩

theorem relay_done (h : Rel w R ln N s H) (o : Bool) (ho : (s.o false && decide ((s.w false).length = 0)) = o) :
    Calls Tryd.prog 39 #[.pointer (some ⟨R, 0, none⟩)] w fun e w' => e = .returned (.bool o) ∧ w = w' := by
  obtain ⟨K, Fs, v, vE, evl, Q, col, rfl, h⟩ := h
  obtain ⟨a, c, hv, _, _⟩ := (h.hw false).form
  have c4 : w.cell? ⟨R, 4, none⟩ = some (v false) := h.cells 4
  have c5 : w.cell? ⟨R, 5, none⟩ = some (.bool (s.o false)) := h.cells 5
  rw [hv] at c4
  obtain ⟨k, hk⟩ : ∃ k, (s.w false).length = k := ⟨_, rfl⟩
  obtain ⟨b, hb⟩ : ∃ b, s.o false = b := ⟨_, rfl⟩
  rw [hk] at c4 ho
  rw [hb] at c5 ho
  clear h hv hk hb
  subst ho
  cases b
  · go_enter Tryd.func39, Tryd.ntmps39
    go_wp2_with fail
    go_ret
    exact ⟨rfl, rfl⟩
  · go_enter Tryd.func39, Tryd.ntmps39
    go_wp2_with fail
    go_ret
    exact ⟨ret_bool (by by_cases h : k = 0 <;> simp [h]), rfl⟩

theorem done_nil (w : World) : Calls Tryd.prog 39 #[.pointer none] w fun e w' => e = .returned (.bool false) ∧ w = w' := by
  go_enter Tryd.func39, Tryd.ntmps39
  go_wp2
  go_ret
  exact ⟨rfl, rfl⟩

theorem step_nil (kind n t : Int) (w : World) : Calls Tryd.prog 38 #[.pointer none, .int .i64 kind, .int .i64 n, .int .i64 t] w fun e w' => e = .returned (.bool false) ∧ w = w' := by
  go_enter Tryd.func38, Tryd.ntmps38
  go_wp2
  go_ret
  exact ⟨rfl, rfl⟩
end

end Go.Proofs.YthpdphbppapkhaaDoor
