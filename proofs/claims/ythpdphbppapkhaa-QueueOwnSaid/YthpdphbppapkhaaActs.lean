/-
  Acts that come in: how a slice of them lies in memory, and the walk of 'great' (are they more than are looked at?). No condition.
-/
import Derived.Test.YthpdphbppapkhaaBase
namespace Go.Proofs.Ythpdphbppapkhaa
open Go.RowKit qi

/-- An int64. -/
def I64 (a : Int) : Prop := -9223372036854775808 ≤ a ∧ a ≤ 9223372036854775807

theorem i64_of {a : Int} (h : (Lit.int .i64 a).wf = true) : I64 a := by
  have := bounds_i64 h
  exact this

/-- A slice of numbers that came in. -/
def IsList (w : World) (a : Option Addr) (n cap : Nat) (zs : List Int) : Prop :=
  n ≤ cap ∧ cap ≤ maxLen ∧ zs.length = n ∧ ∀ j, j < n → ∃ b off, a = some ⟨b, off, none⟩ ∧ b < w.heap.size ∧ w.cell? ⟨b, off + j, none⟩ = some (.int .i64 (zs.getD j 0)) ∧ I64 (zs.getD j 0)

/-- An act. -/
structure Act where
  kind : Int
  n : Int
  l : List Int
deriving Inhabited

/-- An act in memory, its three cells from place o on of block b. -/
def IsAct (w : World) (b o : Nat) (act : Act) : Prop :=
  ∃ la ln lc, w.cell? ⟨b, o, none⟩ = some (.int .i64 act.kind) ∧ w.cell? ⟨b, o + 1, none⟩ = some (.int .i64 act.n) ∧ w.cell? ⟨b, o + 2, none⟩ = some (.slice la ln lc) ∧ IsList w la ln lc act.l ∧ I64 act.kind ∧ I64 act.n

/-- Acts that came in. -/
def IsActs (w : World) (a : Option Addr) (len cap : Nat) (acts : List Act) : Prop :=
  len ≤ cap ∧ cap ≤ maxLen ∧ acts.length = len ∧ ∀ i, i < len → ∃ b off act, a = some ⟨b, off, none⟩ ∧ b < w.heap.size ∧ acts[i]? = some act ∧ IsAct w b (off + i * 3) act

theorem IsList.below {w w' : World} {a : Option Addr} {n cap : Nat} {zs : List Int} (h : IsList w a n cap zs) (hb : Below w.heap.size w w') : IsList w' a n cap zs := by
  obtain ⟨h1, h2, h3, h4⟩ := h
  refine ⟨h1, h2, h3, fun j hj => ?_⟩
  obtain ⟨b, off, e, hlt, hc, hi⟩ := h4 j hj
  exact ⟨b, off, e, Nat.lt_of_lt_of_le hlt hb.size, (hb.cell (p := ⟨b, off + j, none⟩) hlt).trans hc, hi⟩

theorem IsAct.below {w w' : World} {b o : Nat} {act : Act} (h : IsAct w b o act) (hlt : b < w.heap.size) (hb : Below w.heap.size w w') : IsAct w' b o act := by
  obtain ⟨la, ln, lc, h0, h1, h2, h3, h4⟩ := h
  exact ⟨la, ln, lc, (hb.cell (p := ⟨b, o, none⟩) hlt).trans h0, (hb.cell (p := ⟨b, o + 1, none⟩) hlt).trans h1, (hb.cell (p := ⟨b, o + 2, none⟩) hlt).trans h2, h3.below hb, h4⟩

theorem IsActs.below {w w' : World} {a : Option Addr} {len cap : Nat} {acts : List Act} (h : IsActs w a len cap acts) (hb : Below w.heap.size w w') : IsActs w' a len cap acts := by
  obtain ⟨h1, h2, h3, h4⟩ := h
  refine ⟨h1, h2, h3, fun i hi => ?_⟩
  obtain ⟨b, off, act, e, hlt, ha, hact⟩ := h4 i hi
  exact ⟨b, off, act, e, Nat.lt_of_lt_of_le hlt hb.size, ha, hact.below hlt hb⟩

/-- What came in, handed on to Put: the queue's blocks are newer. -/
theorem IsList.given {w0 w : World} {a : Option Addr} {n cap : Nat} {zs : List Int} (h : IsList w0 a n cap zs) (hb : Below w0.heap.size w0 w) {F : List Nat} (hF : ∀ x, x ∈ F → w0.heap.size ≤ x) : GivenIn w F a n cap zs := by
  obtain ⟨h1, h2, h3, h4⟩ := h
  refine ⟨h1, h2, h3, fun i hi => ?_⟩
  obtain ⟨b, off, e, hlt, hc, _⟩ := h4 i hi
  exact ⟨b, off, e, Nat.lt_of_lt_of_le hlt hb.size, fun hm => by have := hF b hm; omega, (hb.cell (p := ⟨b, off + i, none⟩) hlt).trans hc⟩

/-- Are they more than are looked at? -/
def isGreat (acts : List Act) : Bool := decide (80 < acts.length) || acts.any fun a => decide (80 < a.l.length)

set_option maxHeartbeats 1000000 in
theorem great_any (a : Option Addr) (len cap : Nat) (acts : List Act) (w : World) (h : IsActs w a len cap acts) :
    Calls Try.prog 10 #[.slice a len cap] w fun e w' => e = .returned (.bool (isGreat acts)) ∧ Below w.heap.size w w' := by
  obtain ⟨h1, h2, h3, h4⟩ := h
  have HL := Lib.hid h3
  have HA : Hid _ := h4
  unfold maxLen at h2
  clear h3 h4
  by_cases hbig : 80 < len
  · go_enter Try.func10, Try.ntmps10
    go_wp2
    go_ret
    exact ⟨ret_bool (by unfold isGreat; rw [decide_eq_true (by have := HL.out; omega)]; simp), Below.refl _ _⟩
  · go_enter Try.func10, Try.ntmps10
    go_wp2
    go_loopg [10] len (fun g v10 wr => ∃ i : Nat, i + g = len ∧ v10 = .int .i64 i ∧ Hid ((acts.take i).any (fun a => decide (80 < a.l.length)) = false) ∧ Below w.heap.size w wr)
    case atStart => exact ⟨0, by omega, rfl, rfl, Below.refl _ _⟩
    case round =>
      obtain ⟨i, hi, rfl, hno, hbel⟩ := hrel
      by_cases hlt : i < len
      · obtain ⟨b, off, act, rfl, hb, hact, la, ln, lc, c0, c1, c2, hl, _⟩ := HA.out i hlt
        have d0 := (hbel.cell (p := ⟨b, off + i * 3, none⟩) hb).trans c0
        have d1 := (hbel.cell (p := ⟨b, off + i * 3 + 1, none⟩) hb).trans c1
        have d2 := (hbel.cell (p := ⟨b, off + i * 3 + 2, none⟩) hb).trans c2
        have HLL := Lib.hid hl
        clear c0 c1 c2 hl
        have HACT := Lib.hid hact
        clear hact
        have hsn : acts.take (i + 1) = acts.take i ++ [act] := by
          rw [List.take_add_one, HACT.out]; rfl
        have HSN := Lib.hid hsn
        have hll : act.l.length = ln := HLL.out.2.2.1
        have HLE := Lib.hid hll
        clear hsn hll
        by_cases hbl : 80 < ln
        · go_wp2
          go_ret
          refine ⟨ret_bool ?_, hbel.alloc hbel.size _⟩
          have hm : act ∈ acts := List.mem_of_getElem? HACT.out
          have : acts.any (fun a => decide (80 < a.l.length)) = true := List.any_eq_true.2 ⟨act, hm, decide_eq_true (by have := HLE.out; omega)⟩
          unfold isGreat
          rw [this, Bool.or_true]
        · go_wp2
          go_roundg (len - (i + 1))
          case measure => omega
          case rel =>
            refine ⟨i + 1, by omega, by go_num, ?_, hbel.alloc hbel.size _⟩
            show _ = _
            rw [HSN.out, List.any_append, hno.out]
            simp only [List.any_cons, List.any_nil, Bool.or_false, Bool.false_or]
            exact decide_eq_false (by have := HLE.out; omega)
      · have hin : i = len := by omega
        subst hin
        go_wp2
        go_ret
        refine ⟨ret_bool ?_, hbel⟩
        have := hno.out
        rw [List.take_of_length_le (by have := HL.out; omega)] at this
        unfold isGreat
        rw [this, decide_eq_false (by have := HL.out; omega)]
        rfl

end Go.Proofs.Ythpdphbppapkhaa
