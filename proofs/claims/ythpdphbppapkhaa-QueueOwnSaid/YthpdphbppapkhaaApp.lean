/-
  append to a slice of the call's own, of numbers that lie in memory (or of none): as a law for the walk. No condition.
-/
import Derived.Test.YthpdphbppapkhaaAll
import Derived.Test.YthpdphbppapkhaaOpen
import Derived.Laws.AppendOwnNone
namespace Go.Proofs.Ythpdphbppapkhaa
open Go.RowKit qi

theorem own_drewN {w : World} {base : Nat} {v : Value} {n : Nat} {xs : List Value} (h : w.ownsRow base 3 1 v n xs) (k : Nat) : (w.drewN k).ownsRow base 3 1 v n xs := h

/-- A slice of numbers that the call owns. -/
def OwnInts (w : World) (base : Nat) (v : Value) (xs : List Int) : Prop := w.ownsRow base 3 1 v xs.length (xs.map fun x => .int .i64 x)

theorem OwnInts.nil (w : World) (base : Nat) : OwnInts w base (.slice none 0 0) [] := World.ownsRow_nil _ _ _ _

theorem OwnInts.form {w : World} {base : Nat} {v : Value} {xs : List Int} (h : OwnInts w base v xs) : ∃ sp sc, v = .slice sp xs.length sc := own_form h

theorem run_none {P : Program} {w : World} (base : Nat) (t ty e : TypeId) (i : TypeInfo) (size : Nat) (ht : P.underlying t = some (.slice e)) (hi : P.info? e = some i)
    (v : Value) (n c : Nat) (xs : List Value) (hown : w.ownsRow base e size v n xs) :
    (Builtin.append_ #[t, t] ty #[v, .slice none 0 c]).run P w = .ok v w := by
  rcases hown.2 with ⟨rfl, rfl⟩ | ⟨g, cap, cur, rfl, _, _, hnc, _⟩
  · simp [Builtin.append_, run_underlying ht, sizeOf, typeInfo, hi, Builtin.lenOf, Builtin.firstCells]
  · simp [Builtin.append_, run_underlying ht, sizeOf, typeInfo, hi, Builtin.lenOf, Builtin.firstCells, hnc, storeCells]

theorem run_app {w : World} (ty : TypeId) (base : Nat) (v : Value) (xs ys : List Int) (hown : OwnInts w base v xs) (sp : Option Addr) (m c : Nat) (hy : Ints w sp m ys) (hb : xs.length + m ≤ 1000000) (hbase : base ≤ w.heap.size) :
    ∃ v' w', (Builtin.append_ #[35, 35] ty #[v, .slice sp m c]).run Try.prog w = .ok v' w' ∧ OwnInts w' base v' (xs ++ ys) ∧ w.grownBy w' v.ownBlock ∧ (v'.ownBlock = v.ownBlock ∨ v'.ownBlock = some w.heap.size) := by
  obtain ⟨i0, hi, hz0, hz1, hz2⟩ := info_parts info
  obtain ⟨hym, hyc⟩ := hy
  cases sp with
  | none =>
    have hm : m = 0 := by
      rcases Nat.eq_zero_or_pos m with h | h
      · exact h
      · obtain ⟨_, _, e, _⟩ := hyc 0 h
        cases e
    subst hm
    have hys : ys = [] := List.eq_nil_of_length_eq_zero hym
    subst hys
    refine ⟨v, w, run_none base 35 ty 3 i0 1 Try.underlying35 hi v xs.length c _ hown, by rw [List.append_nil]; exact hown, ⟨rfl, rfl, rfl, Nat.le_refl _, fun _ _ _ => rfl⟩, .inl rfl⟩
  | some a =>
    have hnews : ∀ j u, (ys.map fun x => Value.int .i64 x)[j]? = some u → w.cell? (a.add j) = some u := by
      intro j u hj
      have hjm : j < ys.length := by
        have := (List.getElem?_eq_some_iff.1 hj).1
        simpa using this
      obtain ⟨b, off, e, h⟩ := hyc j (by omega)
      obtain rfl : a = ⟨b, off, none⟩ := by simpa using e
      rw [add_none, h]
      simp [hjm] at hj
      simp [hj, hjm]
    have h1 : ∀ u ∈ (ys.map fun x => Value.int .i64 x), u.oneCell' = true := by
      intro u hu
      obtain ⟨x, _, rfl⟩ := List.mem_map.1 hu
      rfl
    obtain ⟨v', w', hr, ho, hg, _, hat⟩ := run_append_own_at (P := Try.prog) w base 35 ty 3 i0 (.int .i64 0) 1 8 Try.underlying35 hi hz0 hz1 hz2 rfl (by decide) v xs.length _ hown a m c _ (by simpa using hym) hnews h1 (by simp only [maxLen]; omega) (by omega) hbase
    refine ⟨v', w', hr, ?_, hg, hat⟩
    unfold OwnInts
    rw [List.length_append, List.map_append, hym]
    exact ho

/-- At the operation. -/
theorem wpList_app {w : World} {ops : Array Oper} {rest : List Oper} {o : Oper} {a : Go.Act} {Q : Exit → Go.Act → World → Prop} (hgd : o.guard = none) (s x : Operand)
    (ho : o.op = .call { callee := .builtin .append, args := #[s, x], argTypes := #[35, 35] }) (base : Nat) (v : Value) (xs ys : List Int) (hs : a.eval s = v) (hown : OwnInts w base v xs)
    (sp : Option Addr) (m c : Nat) (hx : a.eval x = .slice sp m c) (hy : Ints w sp m ys) (hb : xs.length + m ≤ 1000000) (hbase : base ≤ w.heap.size)
    (h : ∀ v' w', OwnInts w' base v' (xs ++ ys) → w.grownBy w' v.ownBlock → (v'.ownBlock = v.ownBlock ∨ v'.ownBlock = some w.heap.size) → wpList Try.prog ops Q rest (a.put o.dst v') w') :
    wpList Try.prog ops Q (o :: rest) a w := by
  refine wpList_plain hgd fun K hK => ?_
  obtain ⟨v', w', hr, h2, h3, h4⟩ := run_app o.type base v xs ys hown sp m c hy hb hbase
  unfold Oper.wp execOp
  simp only [ho, resolve, invoke, builtin, Sem.run_bind, Sem.run_pure, Result.andThen_ok, List.map_toArray, List.map_cons, List.map_nil, hs, hx, hr]
  exact hK _ _ (h v' w' h2 h3 h4)

/-- What an append to a slice of one's own leaves alone. -/
theorem keeps_grown {w w' : World} {base : Nat} {v : Value} {xs : List Int} (_h : OwnInts w base v xs) (hg : w.grownBy w' v.ownBlock) : Keeps v.ownBlock.toList w w' :=
  ⟨hg.os, hg.tape, hg.output, hg.size, fun k hk hn => hg.block k hk (fun e => hn (by rw [← e]; simp))⟩

end Go.Proofs.Ythpdphbppapkhaa
