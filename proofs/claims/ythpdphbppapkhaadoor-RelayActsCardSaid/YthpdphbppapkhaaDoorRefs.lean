/-
  The walks of the reference queue (a list of numbers) at this program: Room, Peek, Take, Put; append to a slice of the call's own, of numbers or of bytes. Condition: it lies in memory as 'RefQ' says.
-/
import Derived.Test.YthpdphbppapkhaaDoorActs
import Derived.Laws.AppendOwnNone
import Derived.Deep.RegionHeld3
import Derived.Deep.RegionLaw
import Derived.Deep.AppendLies
namespace Go.Proofs.YthpdphbppapkhaaDoor
open Go.RowKit qb

theorem infoI : (Tryd.prog.info? 3).map (fun i => (i.zero, i.size, i.bytes)) = some (some (.int .i64 0), 1, 8) := by kernel_rfl

/-- A slice of numbers in memory: the first n cells behind a are xs. -/
def Ints (w : World) (a : Option Addr) (n : Nat) (xs : List Int) : Prop :=
  xs.length = n ∧ ∀ i, i < n → ∃ b off, a = some ⟨b, off, none⟩ ∧ w.cell? ⟨b, off + i, none⟩ = some (.int .i64 (xs.getD i 0))

theorem ints_of_own {w : World} {base : Nat} {sp : Option Addr} {n sc : Nat} {xs : List Int} (h : w.ownsRow base 3 1 (.slice sp n sc) n (xs.map fun x => .int .i64 x)) : Ints w sp n xs := by
  have hl : xs.length = n := by have := h.1; simpa using this
  refine ⟨hl, fun i hi => ?_⟩
  rcases h.2 with ⟨e, hz⟩ | ⟨g, cap, cur, e, _⟩
  · omega
  · obtain ⟨rfl, _⟩ : sp = some ⟨g, 0, none⟩ ∧ sc = cap := by simpa using e
    have hc := h.cells (g := g) rfl i (.int .i64 (xs.getD i 0)) (by simp [List.getElem?_eq_getElem (show i < xs.length by omega)])
    have hadd : (⟨g, 0, none⟩ : Addr).add i = ⟨g, 0 + i, none⟩ := by unfold Addr.add; split <;> simp_all
    rw [hadd] at hc
    exact ⟨g, 0, rfl, hc⟩

/-- The length and the capacity of what one owns. -/
theorem own_cap {w : World} {base : Nat} {E : TypeId} {sp : Option Addr} {n sc : Nat} {zs : List Value} (h : w.ownsRow base E 1 (.slice sp n sc) n zs) : n ≤ sc ∧ sc ≤ maxLen := by
  rcases h.2 with ⟨e, h0⟩ | ⟨g, cap, cur, e, _, _, h1, h2, _⟩
  · simp only [Value.slice.injEq] at e
    obtain ⟨_, rfl, rfl⟩ := e
    exact ⟨Nat.le_refl _, by simp [maxLen]⟩
  · simp only [Value.slice.injEq] at e
    obtain ⟨_, _, rfl⟩ := e
    exact ⟨h1, h2⟩

theorem own_lower {W : World} {base base' : Nat} {v : Value} {k : Nat} {xs : List Value} (h : W.ownsRow base 3 1 v k xs) (hb : base' ≤ base) : W.ownsRow base' 3 1 v k xs := by
  refine ⟨h.1, ?_⟩
  rcases h.2 with ⟨e, hz⟩ | ⟨g, cap, cur, e, hge, rest⟩
  · exact .inl ⟨e, hz⟩
  · exact .inr ⟨g, cap, cur, e, Nat.le_trans hb hge, rest⟩

/-- Numbers handed to Put: none of them in a block of F. -/
def GivenI (w : World) (F : List Nat) (xa : Option Addr) (m cap : Nat) (ys : List Int) : Prop :=
  m ≤ cap ∧ cap ≤ maxLen ∧ ys.length = m ∧ ∀ i, i < m → ∃ xb xo, xa = some ⟨xb, xo, none⟩ ∧ xb < w.heap.size ∧ xb ∉ F ∧ w.cell? ⟨xb, xo + i, none⟩ = some (.int .i64 (ys.getD i 0))



theorem own_drewN {w : World} {base : Nat} {v : Value} {n : Nat} {xs : List Value} (h : w.ownsRow base 3 1 v n xs) (k : Nat) : (w.drewN k).ownsRow base 3 1 v n xs := h

/-- A slice of numbers that the call owns. -/
def OwnInts (w : World) (base : Nat) (v : Value) (xs : List Int) : Prop := w.ownsRow base 3 1 v xs.length (xs.map fun x => .int .i64 x)

theorem OwnInts.nil (w : World) (base : Nat) : OwnInts w base (.slice none 0 0) [] := World.ownsRow_nil _ _ _ _

theorem OwnInts.form {w : World} {base : Nat} {v : Value} {xs : List Int} (h : OwnInts w base v xs) : ∃ sp sc, v = .slice sp xs.length sc := own_form h

theorem run_none {P : Program} {w : World} (base : Nat) (t ty e : TypeId) (i : TypeInfo) (size : Nat) (ht : P.underlying t = some (.slice e)) (hi : P.info? e = some i)
    (v : Value) (n c : Nat) (xs : List Value) (hown : w.ownsRow base e size v n xs) :
    (Builtin.append_ #[t, t] ty #[v, .slice none 0 c]).run P w = .ok v w := by
  rcases hown.2 with ⟨rfl, rfl⟩ | ⟨g, cap, cur, rfl, _, _, hnc, _⟩
  · simp [Builtin.append_, run_underlying ht, sizeOf, typeInfo, hi, Builtin.lenOf, Builtin.firstCells]
  · simp [Builtin.append_, run_underlying ht, sizeOf, typeInfo, hi, Builtin.lenOf, Builtin.firstCells, hnc, storeCells]

theorem run_app {w : World} (ty : TypeId) (base : Nat) (v : Value) (xs ys : List Int) (hown : OwnInts w base v xs) (sp : Option Addr) (m c : Nat) (hy : Ints w sp m ys) (hb : xs.length + m ≤ 1000000) (hbase : base ≤ w.heap.size) :
    ∃ v' w', (Builtin.append_ #[45, 45] ty #[v, .slice sp m c]).run Tryd.prog w = .ok v' w' ∧ OwnInts w' base v' (xs ++ ys) ∧ w.grownBy w' v.ownBlock ∧ (v'.ownBlock = v.ownBlock ∨ v'.ownBlock = some w.heap.size) := by
  obtain ⟨i0, hi, hz0, hz1, hz2⟩ := info_parts infoI
  obtain ⟨hym, hyc⟩ := hy
  cases sp with
  | none =>
    have hm : m = 0 := by
      rcases Nat.eq_zero_or_pos m with h | h
      · exact h
      · obtain ⟨_, _, e, _⟩ := hyc 0 h
        cases e
    subst hm
    have hys : ys = [] := List.eq_nil_of_length_eq_zero hym
    subst hys
    refine ⟨v, w, run_none base 45 ty 3 i0 1 Tryd.underlying45 hi v xs.length c _ hown, by rw [List.append_nil]; exact hown, ⟨rfl, rfl, rfl, Nat.le_refl _, fun _ _ _ => rfl⟩, .inl rfl⟩
  | some a =>
    have hnews : ∀ j u, (ys.map fun x => Value.int .i64 x)[j]? = some u → w.cell? (a.add j) = some u := by
      intro j u hj
      have hjm : j < ys.length := by
        have := (List.getElem?_eq_some_iff.1 hj).1
        simpa using this
      obtain ⟨b, off, e, h⟩ := hyc j (by omega)
      obtain rfl : a = ⟨b, off, none⟩ := by simpa using e
      rw [add_none, h]
      simp [hjm] at hj
      simp [hj, hjm]
    have h1 : ∀ u ∈ (ys.map fun x => Value.int .i64 x), u.oneCell' = true := by
      intro u hu
      obtain ⟨x, _, rfl⟩ := List.mem_map.1 hu
      rfl
    obtain ⟨v', w', hr, ho, hg, _, hat⟩ := run_append_own_at (P := Tryd.prog) w base 45 ty 3 i0 (.int .i64 0) 1 8 Tryd.underlying45 hi hz0 hz1 hz2 rfl (by decide) v xs.length _ hown a m c _ (by simpa using hym) hnews h1 (by simp only [maxLen]; omega) (by omega) hbase
    refine ⟨v', w', hr, ?_, hg, hat⟩
    unfold OwnInts
    rw [List.length_append, List.map_append, hym]
    exact ho

/-- At the operation. -/
theorem wpList_app {w : World} {ops : Array Oper} {rest : List Oper} {o : Oper} {a : Go.Act} {Q : Exit → Go.Act → World → Prop} (hgd : o.guard = none) (s x : Operand)
    (ho : o.op = .call { callee := .builtin .append, args := #[s, x], argTypes := #[45, 45] }) (base : Nat) (v : Value) (xs ys : List Int) (hs : a.eval s = v) (hown : OwnInts w base v xs)
    (sp : Option Addr) (m c : Nat) (hx : a.eval x = .slice sp m c) (hy : Ints w sp m ys) (hb : xs.length + m ≤ 1000000) (hbase : base ≤ w.heap.size)
    (h : ∀ v' w', OwnInts w' base v' (xs ++ ys) → w.grownBy w' v.ownBlock → (v'.ownBlock = v.ownBlock ∨ v'.ownBlock = some w.heap.size) → wpList Tryd.prog ops Q rest (a.put o.dst v') w') :
    wpList Tryd.prog ops Q (o :: rest) a w := by
  refine wpList_plain hgd fun K hK => ?_
  obtain ⟨v', w', hr, h2, h3, h4⟩ := run_app o.type base v xs ys hown sp m c hy hb hbase
  unfold Oper.wp execOp
  simp only [ho, resolve, invoke, builtin, Sem.run_bind, Sem.run_pure, Result.andThen_ok, List.map_toArray, List.map_cons, List.map_nil, hs, hx, hr]
  exact hK _ _ (h v' w' h2 h3 h4)

/-- What an append to a slice of one's own leaves alone. -/
theorem keeps_grown {w w' : World} {base : Nat} {v : Value} {xs : List Int} (_h : OwnInts w base v xs) (hg : w.grownBy w' v.ownBlock) : Keeps v.ownBlock.toList w w' :=
  ⟨hg.os, hg.tape, hg.output, hg.size, fun k hk hn => hg.block k hk (fun e => hn (by rw [← e]; simp))⟩



/-- Block m is a reference queue; G: its blocks. -/
def RefQ (w : World) (m : Nat) (G : List Nat) (xs : List Int) (most : Nat) (ended : Bool) : Prop :=
  ∃ v, w.heap[m]? = some (.cells #[v, .int .i64 most, .bool ended] 47 (0, 0)) ∧ G = m :: v.ownBlock.toList ∧ OwnInts w 0 v xs ∧ xs.length ≤ most ∧ most ≤ 65536

theorem RefQ.lt {w : World} {m : Nat} {G : List Nat} {xs : List Int} {most : Nat} {ended : Bool} (h : RefQ w m G xs most ended) : ∀ k, k ∈ G → k < w.heap.size := by
  obtain ⟨v, hm, rfl, ho, _⟩ := h
  intro k hk
  rcases List.mem_cons.1 hk with rfl | hk
  · exact (Array.getElem?_eq_some_iff.1 hm).1
  · exact (ho.lt k (by simpa using hk)).2

/-- A row of numbers is no reference queue's own block. -/
theorem ref_apart {w : World} {m most base : Nat} {v u : Value} {ended : Bool} {xs : List Int} (hm : w.heap[m]? = some (.cells #[v, .int .i64 most, .bool ended] 47 (0, 0))) (ho : OwnInts w base u xs) : u.ownBlock ≠ some m := by
  rcases ho.2 with ⟨rfl, _⟩ | ⟨g, cap, cur, rfl, _, hg, _⟩
  · simp [Value.ownBlock]
  · intro e
    obtain rfl : g = m := by simpa [Value.ownBlock] using e
    have := hg.symm.trans hm
    simp at this

theorem RefQ.keeps {w w' : World} {m : Nat} {G F : List Nat} {xs : List Int} {most : Nat} {ended : Bool} (h : RefQ w m G xs most ended) (hk : Keeps F w w') (hd : ∀ k, k ∈ G → k ∉ F) : RefQ w' m G xs most ended := by
  have hlt := h.lt
  obtain ⟨v, hm, rfl, ho, h1, h2⟩ := h
  exact ⟨v, (hk.block m (hlt m (by simp)) (hd m (by simp))).trans hm, rfl, own_keeps ho hk (fun k e => hd k (by simp [e])), h1, h2⟩

theorem RefQ.below {w w' : World} {m : Nat} {G : List Nat} {xs : List Int} {most : Nat} {ended : Bool} (h : RefQ w m G xs most ended) {B : Nat} (hb : Below B w w') (hB : w.heap.size ≤ B) : RefQ w' m G xs most ended :=
  h.keeps (Keeps.of_below (hb.mono hB) []) (fun _ _ hx => by cases hx)

theorem RefQ.drewN {w : World} {m : Nat} {G : List Nat} {xs : List Int} {most : Nat} {ended : Bool} (h : RefQ w m G xs most ended) (k : Nat) : RefQ (w.drewN k) m G xs most ended := h

set_option maxHeartbeats 1000000 in
theorem ref_room {w : World} {m : Nat} {G : List Nat} {xs : List Int} {most : Nat} {ended : Bool} (h : RefQ w m G xs most ended) :
    Calls Tryd.prog 27 #[.pointer (some ⟨m, 0, none⟩)] w fun e w' => e = .returned (.int .i64 (roomOf xs.length most ended)) ∧ ∃ k, w' = w.drewN k := by
  obtain ⟨v, hm, rfl, ho, h1, h2⟩ := h
  obtain ⟨sp, sc, rfl⟩ := ho.form
  obtain ⟨n, hn⟩ : ∃ n, xs.length = n := ⟨_, rfl⟩
  rw [hn] at h1 hm ⊢
  have c0 : w.cell? ⟨m, 0, none⟩ = some (.slice sp n sc) := cell_at hm 0
  have c1 : w.cell? ⟨m, 1, none⟩ = some (.int .i64 most) := cell_at hm 1
  have c2 : w.cell? ⟨m, 2, none⟩ = some (.bool ended) := cell_at hm 2
  have e1 : IntKind.i64.wrap ((most : Int) - (n : Int)) = (most : Int) - (n : Int) := IntWalk.i64_in _ (by omega)
  clear hm ho hn
  cases ended
  · go_enter Tryd.func27, Tryd.ntmps27
    go_wp2
    go_quiet (fail)
    go_wp2
    go_ret
    exact ⟨rfl, _, rfl⟩
  · go_enter Tryd.func27, Tryd.ntmps27
    go_wp2
    go_ret
    exact ⟨rfl, 0, rfl⟩

theorem ints_one (w : World) (x : Int) : Ints (w.alloc (.cells #[.int .i64 x] 3)) (some ⟨w.heap.size, 0, none⟩) 1 [x] :=
  ⟨rfl, fun i hi => ⟨w.heap.size, 0, rfl, by
    obtain rfl : i = 0 := by omega
    simp⟩⟩

set_option maxRecDepth 100000 in
set_option maxHeartbeats 1000000 in
theorem ref_peek {w : World} {m : Nat} {G : List Nat} {xs : List Int} {most : Nat} {ended : Bool} (h : RefQ w m G xs most ended) (nn : Int) :
    Calls Tryd.prog 61 #[.pointer (some ⟨m, 0, none⟩), .int .i64 nn] w fun e w' => ∃ v, e = .returned v ∧ OwnInts w' w.heap.size v (xs.take (count nn xs.length)) ∧ Below w.heap.size w w' := by
  have hmlt := h.lt m
  obtain ⟨v, hm, rfl, ho, h1, h2⟩ := h
  obtain ⟨sp, sc, rfl⟩ := ho.form
  have hx := ints_of_own ho
  have hol := ho.lt
  obtain ⟨n, hn⟩ : ∃ n, xs.length = n := ⟨_, rfl⟩
  rw [hn] at h1 hm hx hol ⊢
  obtain ⟨c, hc⟩ : ∃ c, count nn n = c := ⟨_, rfl⟩
  have hcd : c = (min nn (n : Int)).toNat := by rw [← hc]; rfl
  rw [hc]
  have hmlt := hmlt (by simp)
  have c0 : w.cell? ⟨m, 0, none⟩ = some (.slice sp n sc) := cell_at hm 0
  have HX : Hid (∀ i, i < n → ∃ b off, sp = some ⟨b, off, none⟩ ∧ w.cell? ⟨b, off + i, none⟩ = some (.int .i64 (xs.getD i 0))) := hx.2
  have HN := Lib.hid hn
  have HC := Lib.hid hcd
  clear hm ho hn hx hc hcd hol
  go_enter Tryd.func61, Tryd.ntmps61
  go_wp2
  go_loopg [5, 6] n (fun g v5 v6 wr => ∃ i : Nat, i + g = n ∧ v6 = .int .i64 i ∧ OwnInts wr w.heap.size v5 (xs.take (min i c)) ∧ Below w.heap.size w wr)
  case atStart => exact ⟨0, by omega, rfl, by rw [Nat.zero_min]; exact .nil _ _, Below.refl _ _⟩
  case round =>
    obtain ⟨i, hi, rfl, hown, hbel⟩ := hrel
    have d0 := (hbel.cell (p := ⟨m, 0, none⟩) hmlt).trans c0
    by_cases hlt : i < n
    · obtain ⟨b, off, rfl, hxi⟩ := HX.out i hlt
      have hblt := World.block_lt_of_cell? w _ hxi
      have dx := (hbel.cell (p := ⟨b, off + i, none⟩) hblt).trans hxi
      obtain ⟨x, hxx⟩ : ∃ x, xs.getD i 0 = x := ⟨_, rfl⟩
      rw [hxx] at dx
      have HXX := Lib.hid hxx
      have HOWN := Lib.hid hown
      have HBEL := Lib.hid hbel
      have hsz := hbel.size
      clear hxi hxx hown hbel
      by_cases hin : (i : Int) < nn
      · have hic : i < c := by have := HC.out; omega
        have hsum : (xs.take (min i c)).length + 1 ≤ 1000000 := by rw [List.length_take]; omega
        have HSUM := Lib.hid hsum
        clear hsum
        go_wp2_with (at_builtin; refine wpList_app rfl _ _ rfl w.heap.size _ _ [x] rfl (HOWN.out.alloc _) (some ⟨wr.heap.size, 0, none⟩) 1 1 rfl (ints_one _ _) HSUM.out (by simp; omega) ?_; intro v' w5 hown5 hgrow5 hat5)
        go_roundg (n - (i + 1))
        case measure => omega
        case rel =>
          refine ⟨i + 1, by omega, by go_num, ?_, ?_⟩
          · rw [show min (i + 1) c = min i c + 1 by omega, List.take_succ_eq_append_getElem (by have := HN.out; omega)]
            have hg : xs[min i c]'(by have := HN.out; omega) = x := by
              have := HXX.out
              simp only [List.getD_eq_getElem?_getD, List.getElem?_eq_getElem (show i < xs.length by have := HN.out; omega), Option.getD_some] at this
              simp only [show min i c = i by omega]
              exact this
            rw [hg]
            exact hown5
          · exact (HBEL.out.alloc hsz _).grown hgrow5 (by simp; omega) (fun j hj => (HOWN.out.lt j hj).1)
      · go_wp2
        go_roundg (n - (i + 1))
        case measure => omega
        case rel =>
          have := HC.out
          exact ⟨i + 1, by omega, by go_num, by rw [show min (i + 1) c = min i c by omega]; exact HOWN.out, HBEL.out⟩
    · have hin : i = n := by omega
      subst hin
      go_wp2
      go_ret
      have := HC.out
      rw [show min i c = c by omega] at hown
      exact ⟨_, rfl, hown, hbel⟩

/-- Behind a store of another row: the reference queue with it. -/
theorem RefQ.set {w : World} {m most : Nat} {v u : Value} {ended : Bool} {ys : List Int} (hm : w.heap[m]? = some (.cells #[v, .int .i64 most, .bool ended] 47 (0, 0))) (ho : OwnInts w 0 u ys) (h1 : ys.length ≤ most) (h2 : most ≤ 65536) :
    RefQ (w.setCell ⟨m, 0, none⟩ u) m (m :: u.ownBlock.toList) ys most ended := by
  refine ⟨u, heap_setCell_same w m 0 _ _ _ hm, rfl, ?_, h1, h2⟩
  refine ownsRow_setCell_other ho (fun e => ref_apart hm ho e) _

theorem own_zero {w : World} {base : Nat} {v : Value} {xs : List Int} (h : OwnInts w base v xs) : OwnInts w 0 v xs := own_lower h (Nat.zero_le _)

/-- What Take leaves: what was taken, and the rest. -/
def RefTaken (w : World) (m : Nat) (G : List Nat) (xs : List Int) (most : Nat) (ended : Bool) (c : Nat) (e : Ending) (w' : World) : Prop :=
  ∃ v, e = .returned v ∧ OwnInts w' w.heap.size v (xs.take c) ∧ ∃ G', RefQ w' m G' (xs.drop c) most ended ∧ Keeps G w w' ∧ (∀ k, k ∈ G' → k ∈ G ∨ w.heap.size ≤ k)

theorem ref_taken {w w1 wr : World} {m most c : Nat} {G : List Nat} {vq v u : Value} {ended : Bool} {xs : List Int} (hm : w.heap[m]? = some (.cells #[vq, .int .i64 most, .bool ended] 47 (0, 0))) (hml : m < w.heap.size) (hG : m ∈ G) (h1 : xs.length ≤ most) (h2 : most ≤ 65536)
    (hv : OwnInts w1 w.heap.size v (xs.take c)) (hb1 : Below w.heap.size w w1) (hu : OwnInts wr w1.heap.size u (xs.drop c)) (hbr : Below w1.heap.size w1 wr) :
    RefTaken w m G xs most ended c (.returned v) (wr.setCell ⟨m, 0, none⟩ u) := by
  have hbw : Below w.heap.size w wr := hb1.trans (hbr.mono hb1.size)
  have hmr : wr.heap[m]? = some (.cells #[vq, .int .i64 most, .bool ended] 47 (0, 0)) := (hbw.block m hml).trans hm
  refine ⟨v, rfl, ownsRow_setCell_below (own_below hv hbr (Nat.le_refl _)) hml _, _, RefQ.set hmr (own_zero hu) (by rw [List.length_drop]; omega) h2, ?_, fun k hk => ?_⟩
  · exact ⟨hbw.os, hbw.tape, hbw.output, Nat.le_trans hbw.size (by simp), fun k hk hn => (heap_setCell_other _ _ _ _ (fun e => hn (by rw [e]; exact hG))).trans (hbw.block k hk)⟩
  · rcases List.mem_cons.1 hk with rfl | hk
    · exact .inl hG
    · have := (hu.lt k (by simpa using hk)).1
      exact .inr (Nat.le_trans hb1.size this)

set_option maxRecDepth 100000 in
set_option maxHeartbeats 1000000 in
theorem ref_take {w : World} {m : Nat} {G : List Nat} {xs : List Int} {most : Nat} {ended : Bool} (h : RefQ w m G xs most ended) (nn : Int) :
    Calls Tryd.prog 52 #[.pointer (some ⟨m, 0, none⟩), .int .i64 nn] w (RefTaken w m G xs most ended (count nn xs.length)) := by
  have hmltG := h.lt m
  have HP : Hid _ := ref_peek h nn
  obtain ⟨vq, hm, rfl, ho, h1, h2⟩ := h
  have hmlt := hmltG (by simp)
  clear hmltG
  obtain ⟨sp, sc, rfl⟩ := ho.form
  have hx := ints_of_own ho
  obtain ⟨n, hn⟩ : ∃ n, xs.length = n := ⟨_, rfl⟩
  obtain ⟨c, hc⟩ : ∃ c, count nn xs.length = c := ⟨_, rfl⟩
  have hcn : c ≤ n := by rw [← hc, ← hn]; exact count_le _ _
  rw [hc] at HP ⊢
  have HT : Hid (∀ (w1 wr : World) (v u : Value), OwnInts w1 w.heap.size v (xs.take c) → Below w.heap.size w w1 → OwnInts wr w1.heap.size u (xs.drop c) → Below w1.heap.size w1 wr → RefTaken w m (m :: (Value.slice sp xs.length sc).ownBlock.toList) xs most ended c (.returned v) (wr.setCell ⟨m, 0, none⟩ u)) :=
    fun w1 wr v u a b c d => ref_taken hm hmlt (by simp) h1 h2 a b c d
  rw [hn] at h1 hm hx
  have c0 : w.cell? ⟨m, 0, none⟩ = some (.slice sp n sc) := cell_at hm 0
  have f0 : w.frozen? ⟨m, 0, none⟩ = false := frozen_of_row _ _ _ _ _ hm
  have HX : Hid (∀ i, i < n → ∃ b off, sp = some ⟨b, off, none⟩ ∧ w.cell? ⟨b, off + i, none⟩ = some (.int .i64 (xs.getD i 0))) := hx.2
  have HN := Lib.hid hn
  clear hm ho hn hx hc
  go_enter Tryd.func52, Tryd.ntmps52
  go_wp2_with fail
  refine Calls.mono HP.out ?_
  rintro e w1 ⟨v, rfl, hv, hb1⟩
  obtain ⟨sp1, sc1, hvf⟩ := hv.form
  have hlc : (xs.take c).length = c := by rw [List.length_take]; have := HN.out; omega
  rw [hlc] at hvf
  subst hvf
  have HV := Lib.hid hv
  have HB1 := Lib.hid hb1
  have hsz1 := hb1.size
  have k0 := (hb1.cell (p := ⟨m, 0, none⟩) hmlt).trans c0
  have kf := (hb1.frozen (p := ⟨m, 0, none⟩) hmlt).trans f0
  have hm1 : m < w1.heap.size := by omega
  clear HP hv hlc hb1 c0 f0
  go_wp2_with fail
  go_loopg [6, 7] (n - c) (fun g v6 v7 wr => ∃ i : Nat, i + g = n ∧ c ≤ i ∧ v7 = .int .i64 i ∧ OwnInts wr w1.heap.size v6 ((xs.take i).drop c) ∧ Below w1.heap.size w1 wr)
  case atStart => exact ⟨c, by omega, Nat.le_refl _, rfl, by rw [List.drop_eq_nil_of_le (by rw [List.length_take]; omega)]; exact .nil _ _, Below.refl _ _⟩
  case round =>
    obtain ⟨i, hi, hci, rfl, hown, hbel⟩ := hrel
    have d0 := (hbel.cell (p := ⟨m, 0, none⟩) hm1).trans k0
    have df := (hbel.frozen (p := ⟨m, 0, none⟩) hm1).trans kf
    by_cases hlt : i < n
    · obtain ⟨b, off, rfl, hxi⟩ := HX.out i hlt
      have hblt := World.block_lt_of_cell? w _ hxi
      have dx := (hbel.cell (p := ⟨b, off + i, none⟩) (Nat.lt_of_lt_of_le hblt hsz1)).trans ((HB1.out.cell (p := ⟨b, off + i, none⟩) hblt).trans hxi)
      obtain ⟨x, hxx⟩ : ∃ x, xs.getD i 0 = x := ⟨_, rfl⟩
      rw [hxx] at dx
      have HXX := Lib.hid hxx
      have HOWN := Lib.hid hown
      have HBEL := Lib.hid hbel
      have hsz := hbel.size
      have hsum : ((xs.take i).drop c).length + 1 ≤ 1000000 := by rw [List.length_drop, List.length_take]; omega
      have HSUM := Lib.hid hsum
      clear hxi hxx hown hbel hsum
      go_wp2_with (at_builtin; refine wpList_app rfl _ _ rfl w1.heap.size _ _ [x] rfl (HOWN.out.alloc _) (some ⟨wr.heap.size, 0, none⟩) 1 1 rfl (ints_one _ _) HSUM.out (by simp; omega) ?_; intro v' w5 hown5 hgrow5 hat5)
      go_roundg (n - (i + 1))
      case measure => omega
      case rel =>
        refine ⟨i + 1, by omega, by omega, by go_num, ?_, ?_⟩
        · have hil : i < xs.length := by have := HN.out; omega
          have hg : xs[i] = x := by
            have := HXX.out
            simpa only [List.getD_eq_getElem?_getD, List.getElem?_eq_getElem hil, Option.getD_some] using this
          rw [List.take_succ_eq_append_getElem hil, List.drop_append_of_le_length (by rw [List.length_take]; omega), hg]
          exact hown5
        · exact (HBEL.out.alloc hsz _).grown hgrow5 (by simp; omega) (fun j hj => (HOWN.out.lt j hj).1)
    · have hin : i = n := by omega
      subst hin
      rw [List.take_of_length_le (by have := HN.out; omega)] at hown
      have HOWN := Lib.hid hown
      have HBEL := Lib.hid hbel
      clear hown hbel
      obtain ⟨sp6, sc6, hf⟩ := HOWN.out.form
      obtain ⟨d, hd⟩ : ∃ d, (xs.drop c).length = d := ⟨_, rfl⟩
      rw [hd] at hf
      clear hd
      subst hf
      go_wp2
      go_ret
      exact HT.out _ _ _ _ HV.out HB1.out HOWN.out HBEL.out



theorem ref_put_step {w W w1 : World} {m most g cap : Nat} {v : Value} {ended : Bool} {zs : List Int} {y : Int} (hm : w.heap[m]? = some (.cells #[v, .int .i64 most, .bool ended] 47 (0, 0))) (ho : OwnInts w 0 v zs) (h1 : zs.length + 1 ≤ most) (h2 : most ≤ 65536) (hW : Below w.heap.size w W)
    (hown : w1.ownsRow 0 3 1 (.slice (some ⟨g, 0, none⟩) (zs.length + 1) cap) (zs.length + 1) ((zs.map fun x => .int .i64 x) ++ [.int .i64 y])) (hgrow : W.grownBy w1 v.ownBlock) (hat : v.ownBlock = some g ∨ w.heap.size ≤ g) :
    RefQ (w1.setCell ⟨m, 0, none⟩ (.slice (some ⟨g, 0, none⟩) (zs.length + 1) cap)) m (m :: [g]) (zs ++ [y]) most ended ∧ Keeps (m :: v.ownBlock.toList) w (w1.setCell ⟨m, 0, none⟩ (.slice (some ⟨g, 0, none⟩) (zs.length + 1) cap)) ∧
      ∀ k, k ∈ m :: [g] → k ∈ m :: v.ownBlock.toList ∨ w.heap.size ≤ k := by
  have hml : m < w.heap.size := (Array.getElem?_eq_some_iff.1 hm).1
  have hne : v.ownBlock ≠ some m := ref_apart hm ho
  have hm1 : w1.heap[m]? = some (.cells #[v, .int .i64 most, .bool ended] 47 (0, 0)) := (hgrow.block m (Nat.lt_of_lt_of_le hml hW.size) (fun e => hne e.symm)).trans ((hW.block m hml).trans hm)
  have hown' : OwnInts w1 0 (.slice (some ⟨g, 0, none⟩) (zs.length + 1) cap) (zs ++ [y]) := by
    unfold OwnInts
    rw [List.length_append, List.map_append]
    exact hown
  refine ⟨RefQ.set hm1 hown' (by rw [List.length_append]; exact h1) h2, ⟨?_, ?_, ?_, ?_, ?_⟩, ?_⟩
  · exact hgrow.os.trans hW.os
  · exact hgrow.tape.trans hW.tape
  · exact hgrow.output.trans hW.output
  · have := hW.size; have := hgrow.size; simp; omega
  · intro k hk hn
    refine (heap_setCell_other _ _ _ _ (fun e => hn (by simp [e]))).trans ?_
    exact (hgrow.block k (Nat.lt_of_lt_of_le hk hW.size) (fun e => hn (by simp [← e]))).trans (hW.block k hk)
  · intro k hk
    rcases List.mem_cons.1 hk with rfl | hk
    · exact .inl (by simp)
    · rcases List.mem_singleton.1 hk with rfl
      rcases hat with e | e
      · exact .inl (by simp [e])
      · exact .inr e

theorem ref_far {w W w1 : World} {m most : Nat} {v : Value} {ended : Bool} {zs : List Int} (hm : w.heap[m]? = some (.cells #[v, .int .i64 most, .bool ended] 47 (0, 0))) (ho : OwnInts w 0 v zs) (hW : Below w.heap.size w W) (hgrow : W.grownBy w1 v.ownBlock) :
    w1.cell? ⟨m, 0, none⟩ = some v ∧ w1.frozen? ⟨m, 0, none⟩ = false := by
  have hml : m < w.heap.size := (Array.getElem?_eq_some_iff.1 hm).1
  have hm1 : w1.heap[m]? = some (.cells #[v, .int .i64 most, .bool ended] 47 (0, 0)) := (hgrow.block m (Nat.lt_of_lt_of_le hml hW.size) (fun e => ref_apart hm ho e.symm)).trans ((hW.block m hml).trans hm)
  exact ⟨cell_at hm1 0, frozen_of_row _ _ _ _ _ hm1⟩

/-- Behind i of the things: k of them were taken. -/
def RefPutInv (w : World) (m : Nat) (G : List Nat) (xs ys : List Int) (most : Nat) (ended : Bool) (k : Nat) (wr : World) : Prop :=
  ∃ G', RefQ wr m G' (xs ++ ys.take k) most ended ∧ Keeps G w wr ∧ ∀ x, x ∈ G' → x ∈ G ∨ w.heap.size ≤ x

set_option maxRecDepth 100000 in
set_option maxHeartbeats 2000000 in
theorem ref_put {w : World} {m : Nat} {G : List Nat} {xs ys : List Int} {most : Nat} {ended : Bool} (h : RefQ w m G xs most ended) (xa : Option Addr) (n cap : Nat) (hy : GivenI w G xa n cap ys) :
    Calls Tryd.prog 51 #[.pointer (some ⟨m, 0, none⟩), .slice xa n cap] w fun e w' => e = .returned (.int .i64 (took n xs.length most ended)) ∧ RefPutInv w m G xs ys most ended (took n xs.length most ended) w' := by
  obtain ⟨hnc, hcm, hyn, hyc⟩ := hy
  obtain ⟨R, hR⟩ : ∃ R, (if ended then 0 else most - xs.length) = R := ⟨_, rfl⟩
  have hlen := h
  obtain ⟨_, _, _, _, hxm, hmm⟩ := hlen
  have hroom : ∀ j, j ≤ R → roomOf (xs.length + j) most ended = (R : Int) - j := by
    intro j hj
    cases ended
    · simp only [Bool.false_eq_true, if_false] at hR
      unfold roomOf
      simp only [Bool.false_eq_true, if_false]
      omega
    · simp only [if_true] at hR
      unfold roomOf
      simp only [if_true]
      omega
  have hRm : xs.length + R ≤ most := by
    cases ended
    · simp only [Bool.false_eq_true, if_false] at hR
      omega
    · simp only [if_true] at hR
      omega
  have htk : took n xs.length most ended = min n R := by unfold took; rw [hR]
  rw [htk]
  unfold maxLen at hcm
  have HYC : Hid (∀ i, i < n → ∃ xb xo, xa = some ⟨xb, xo, none⟩ ∧ xb < w.heap.size ∧ xb ∉ G ∧ w.cell? ⟨xb, xo + i, none⟩ = some (Value.int .i64 (ys.getD i 0))) := hyc
  have HROOM : Hid (∀ j, j ≤ R → roomOf (xs.length + j) most ended = (R : Int) - j) := hroom
  have HRM := Lib.hid hRm
  have HYN := Lib.hid hyn
  have HMM := Lib.hid hmm
  have hinv : RefPutInv w m G xs ys most ended 0 w := ⟨G, by rw [List.take_zero, List.append_nil]; exact h, Keeps.refl _ _, fun x hx => .inl hx⟩
  clear hyc hroom hRm hyn hmm hxm htk hR h
  go_enter Tryd.func51, Tryd.ntmps51
  go_wp2
  go_loopg [5, 6] n (fun g v5 v6 wr => ∃ i : Nat, i + g = n ∧ v6 = .int .i64 i ∧ v5 = .int .i64 (min i R : Nat) ∧ RefPutInv w m G xs ys most ended (min i R) wr)
  case atStart => exact ⟨0, by omega, rfl, by rw [Nat.zero_min]; rfl, by rw [Nat.zero_min]; exact hinv⟩
  case round =>
    clear hinv
    obtain ⟨i, hi, rfl, rfl, G', hq, hk, hs⟩ := hrel
    obtain ⟨j, hj⟩ : ∃ j, min i R = j := ⟨_, rfl⟩
    rw [hj] at hq ⊢
    by_cases hlt : i < n
    · obtain ⟨xb, xo, rfl, hxl, hxg, hxi⟩ := HYC.out i hlt
      have dx : wr.cell? ⟨xb, xo + i, none⟩ = some (Value.int .i64 (ys.getD i 0)) := (World.cell?_of_block (a := ⟨xb, xo + i, none⟩) (hk.block _ hxl hxg)).trans hxi
      obtain ⟨y, hyy⟩ : ∃ y, ys.getD i 0 = y := ⟨_, rfl⟩
      rw [hyy] at dx
      have hzl : (xs ++ ys.take j).length = xs.length + j := by rw [List.length_append, List.length_take]; have := HYN.out; omega
      have hrm := HROOM.out j (by omega)
      rw [← hzl] at hrm
      have HRR := Lib.hid hrm
      have HQ := Lib.hid hq
      have HK := Lib.hid hk
      have HS : Hid _ := hs
      have HZL := Lib.hid hzl
      have HYY := Lib.hid hyy
      have HJ := Lib.hid hj
      clear hxi hrm hq hk hs hzl hyy hj hxg
      go_wp2_with fail
      refine (ref_room HQ.out).mono ?_
      rintro e w' ⟨rfl, k, rfl⟩
      rw [HRR.out]
      by_cases hpos : 0 < (R : Int) - j
      · have hji : j = i := by have := HJ.out; omega
        subst hji
        obtain ⟨v, hm, rfl, ho, h1, h2⟩ := HQ.out
        obtain ⟨sp, sc, rfl⟩ := ho.form
        obtain ⟨i0, hi0, hz0, hz1, hz2⟩ := info_parts infoI
        rw [HZL.out] at hm ho
        have c0 : wr.cell? ⟨m, 0, none⟩ = some (.slice sp (xs.length + j) sc) := cell_at hm 0
        have f0 : wr.frozen? ⟨m, 0, none⟩ = false := frozen_of_row _ _ _ _ _ hm
        have hml : m < wr.heap.size := World.block_lt_of_cell? wr _ c0
        have hxne : xb < wr.heap.size := World.block_lt_of_cell? wr _ dx
        have hrk : xs.length + j + 1 ≤ 65536 := by have := HRM.out; have := HMM.out; omega
        have HO : Hid (wr.ownsRow 0 3 1 (.slice sp (xs.length + j) sc) (xs.length + j) ((xs ++ ys.take j).map fun x => .int .i64 x)) := by
          have := ho
          unfold OwnInts at this
          rw [HZL.out] at this
          exact this
        have HM := Lib.hid hm
        have ca : ∀ o, ((wr.drewN (k + 1)).alloc o).cell? ⟨m, 0, none⟩ = some (.slice sp (xs.length + j) sc) := fun o => (World.cell?_alloc_lt (wr.drewN (k + 1)) o ⟨m, 0, none⟩ hml).trans c0
        have HO2 := Lib.hid ho
        have HBW : Hid (∀ o, Below wr.heap.size wr ((wr.drewN (k + 1)).alloc o)) := fun o => (below_drewN (Below.refl _ _) _).alloc (Nat.le_refl _) _
        clear hm ho
        go_wp2_with fail
        go_region_law ((refine step_append_lies _ (by rfl) _ _ _ (by rfl) 0 3 i0 _ 1 8 Tryd.underlying45 hi0 hz0 hz1 hz2 rfl (by omega) (.slice sp (xs.length + j) sc) (xs.length + j) _ (by rfl) ((own_drewN HO.out (k + 1)).alloc _) ⟨wr.heap.size, 0, none⟩ 1 1 [(Value.int .i64 y)] (by rfl) (by rfl) (World.news_of_block (cs := #[(Value.int .i64 y)]) (t := 3) (fr := (0, 0)) (heap_alloc_new _ _)) (by simp [Value.oneCell']) (by omega) (by unfold maxLen; omega) (by omega) (by simp) (wr.heap.size + 1) (by simp) ?_; intro gg cap' w1 hown1 hgrow hat hlt'; obtain ⟨e1, f1⟩ := ref_far HM.out HO2.out (HBW.out _) hgrow))
        all_goals
          have hstep := ref_put_step HM.out HO2.out (by rw [HZL.out]; have := HRM.out; omega) HMM.out (HBW.out _) (by rw [HZL.out]; exact hown1) hgrow (hat.elim .inl (fun e => .inr (by omega)))
          rw [HZL.out] at hstep
          have HS2 : Hid (∀ x, x ∈ m :: (Value.slice sp (xs.length + j) sc).ownBlock.toList → x ∈ G ∨ w.heap.size ≤ x) := by rw [← HZL.out]; exact HS.out
          have HSTEP := Lib.hid hstep
          clear hstep hown1 hgrow hat ca
          go_wp2
          go_roundg (n - (j + 1))
          case measure => omega
          case rel =>
            have hh : min (j + 1) R = j + 1 := by omega
            have hjl : j < ys.length := by have := HYN.out; omega
            have hnx : xs ++ ys.take (j + 1) = (xs ++ ys.take j) ++ [y] := by
              rw [List.append_assoc, List.take_succ_eq_append_getElem hjl]
              have : ys[j] = y := by
                have := HYY.out
                simpa only [List.getD_eq_getElem?_getD, List.getElem?_eq_getElem hjl, Option.getD_some] using this
              rw [this]
            refine ⟨j + 1, by omega, by go_num, by rw [hh]; go_num, ?_⟩
            rw [hh]
            unfold RefPutInv
            rw [hnx]
            refine ⟨_, HSTEP.out.1, HK.out.trans HSTEP.out.2.1 HS2.out, fun x hx => ?_⟩
            rcases HSTEP.out.2.2 x hx with h | h
            · exact HS2.out x h
            · exact .inr (Nat.le_trans HK.out.size h)
      · go_wp2
        go_roundg (n - (i + 1))
        case measure => omega
        case rel =>
          have hh : min (i + 1) R = j := by have := HJ.out; omega
          exact ⟨i + 1, by omega, by go_num, by rw [hh], by rw [hh]; exact ⟨G', HQ.out, ⟨HK.out.os, HK.out.tape, HK.out.output, HK.out.size, HK.out.block⟩, HS.out⟩⟩
    · have hin : i = n := by omega
      subst hin
      subst hj
      go_wp2
      go_ret
      exact ⟨rfl, G', hq, hk, hs⟩

end Go.Proofs.YthpdphbppapkhaaDoor
