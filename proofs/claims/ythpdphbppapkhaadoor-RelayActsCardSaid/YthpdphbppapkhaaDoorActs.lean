/-
  Acts (and picks) that come in: how a slice of bytes and a slice of acts lie in memory, and the walk of 'great' (are they more than are looked at?). No condition.
-/
import Derived.Test.YthpdphbppapkhaaDoorAlive
namespace Go.Proofs.YthpdphbppapkhaaDoor
open Go.RowKit qb

/-- A byte. -/
def U8 (a : Int) : Prop := 0 ≤ a ∧ a ≤ 255

/-- A slice of bytes that came in. -/
def IsBytes (w : World) (a : Option Addr) (n cap : Nat) (zs : List Int) : Prop :=
  n ≤ cap ∧ cap ≤ maxLen ∧ zs.length = n ∧ ∀ j, j < n → ∃ b off, a = some ⟨b, off, none⟩ ∧ b < w.heap.size ∧ w.cell? ⟨b, off + j, none⟩ = some (.int .u8 (zs.getD j 0)) ∧ U8 (zs.getD j 0)

/-- An act: its kind, two numbers more, its bytes. -/
structure Act where
  kind : Int
  p1 : Int
  p2 : Int
  l : List Int
deriving Inhabited

/-- An act in memory, its four cells from place o on of block b. -/
def IsAct (w : World) (b o : Nat) (act : Act) : Prop :=
  ∃ la ln lc, w.cell? ⟨b, o, none⟩ = some (.int .i64 act.kind) ∧ w.cell? ⟨b, o + 1, none⟩ = some (.int .i64 act.p1) ∧ w.cell? ⟨b, o + 2, none⟩ = some (.int .i64 act.p2) ∧ w.cell? ⟨b, o + 3, none⟩ = some (.slice la ln lc) ∧
    IsBytes w la ln lc act.l ∧ I64 act.kind ∧ I64 act.p1 ∧ I64 act.p2

/-- Acts that came in. -/
def IsActs (w : World) (a : Option Addr) (len cap : Nat) (acts : List Act) : Prop :=
  len ≤ cap ∧ cap ≤ maxLen ∧ acts.length = len ∧ ∀ i, i < len → ∃ b off act, a = some ⟨b, off, none⟩ ∧ b < w.heap.size ∧ acts[i]? = some act ∧ IsAct w b (off + i * 4) act

theorem IsBytes.below {w w' : World} {a : Option Addr} {n cap : Nat} {zs : List Int} (h : IsBytes w a n cap zs) (hb : Below w.heap.size w w') : IsBytes w' a n cap zs := by
  obtain ⟨h1, h2, h3, h4⟩ := h
  refine ⟨h1, h2, h3, fun j hj => ?_⟩
  obtain ⟨b, off, e, hlt, hc, hi⟩ := h4 j hj
  exact ⟨b, off, e, Nat.lt_of_lt_of_le hlt hb.size, (hb.cell (p := ⟨b, off + j, none⟩) hlt).trans hc, hi⟩

theorem IsAct.below {w w' : World} {b o : Nat} {act : Act} (h : IsAct w b o act) (hlt : b < w.heap.size) (hb : Below w.heap.size w w') : IsAct w' b o act := by
  obtain ⟨la, ln, lc, h0, h1, h2, h3, h4, h5⟩ := h
  exact ⟨la, ln, lc, (hb.cell (p := ⟨b, o, none⟩) hlt).trans h0, (hb.cell (p := ⟨b, o + 1, none⟩) hlt).trans h1, (hb.cell (p := ⟨b, o + 2, none⟩) hlt).trans h2, (hb.cell (p := ⟨b, o + 3, none⟩) hlt).trans h3, h4.below hb, h5⟩

theorem IsActs.below {w w' : World} {a : Option Addr} {len cap : Nat} {acts : List Act} (h : IsActs w a len cap acts) (hb : Below w.heap.size w w') : IsActs w' a len cap acts := by
  obtain ⟨h1, h2, h3, h4⟩ := h
  refine ⟨h1, h2, h3, fun i hi => ?_⟩
  obtain ⟨b, off, act, e, hlt, ha, hact⟩ := h4 i hi
  exact ⟨b, off, act, e, Nat.lt_of_lt_of_le hlt hb.size, ha, hact.below hlt hb⟩

/-- What came in, handed on to Write: the line's blocks are newer. -/
theorem IsBytes.given {w0 w : World} {a : Option Addr} {n cap : Nat} {zs : List Int} (h : IsBytes w0 a n cap zs) (hb : Below w0.heap.size w0 w) {F : List Nat} (hF : ∀ x, x ∈ F → w0.heap.size ≤ x) : qb.GivenIn w F a n cap zs := by
  obtain ⟨h1, h2, h3, h4⟩ := h
  refine ⟨h1, h2, h3, fun i hi => ?_⟩
  obtain ⟨b, off, e, hlt, hc, _⟩ := h4 i hi
  exact ⟨b, off, e, Nat.lt_of_lt_of_le hlt hb.size, fun hm => by have := hF b hm; omega, (hb.cell (p := ⟨b, off + i, none⟩) hlt).trans hc⟩

/-- The first k bytes of it. -/
theorem IsBytes.cut {w : World} {a : Option Addr} {n cap k : Nat} {zs : List Int} (h : IsBytes w a n cap zs) (hk : k ≤ n) : IsBytes w a k cap (zs.take k) := by
  obtain ⟨h1, h2, h3, h4⟩ := h
  refine ⟨by omega, h2, by simp; omega, fun j hj => ?_⟩
  have e : (zs.take k).getD j 0 = zs.getD j 0 := by simp [List.getD_eq_getElem?_getD, hj]
  rw [e]
  exact h4 j (by omega)

/-- Where a slice begins whose first k bytes are left out. -/
def from_ (a : Option Addr) (cap k : Nat) : Option Addr := if cap = k then a else a.map (·.add k)

theorem add_none (b off j : Nat) : (⟨b, off, none⟩ : Addr).add j = ⟨b, off + j, none⟩ := by unfold Addr.add; split <;> simp_all

theorem IsBytes.drop {w : World} {a : Option Addr} {n cap k : Nat} {zs : List Int} (h : IsBytes w a n cap zs) (hk : k ≤ n) : IsBytes w (from_ a cap k) (n - k) (cap - k) (zs.drop k) := by
  obtain ⟨h1, h2, h3, h4⟩ := h
  refine ⟨by omega, by omega, by simp; omega, fun j hj => ?_⟩
  obtain ⟨b, off, rfl, hlt, hc, hu⟩ := h4 (k + j) (by omega)
  have e : (zs.drop k).getD j 0 = zs.getD (k + j) 0 := by simp [List.getD_eq_getElem?_getD]
  rw [e]
  refine ⟨b, off + k, ?_, hlt, by rw [Nat.add_assoc]; exact hc, hu⟩
  unfold from_
  rw [if_neg (by omega)]
  exact congrArg some (add_none b off k)

/-- Bytes as a text. -/
theorem IsBytes.conv {w : World} {a : Option Addr} {n cap : Nat} {zs : List Int} (h : IsBytes w a n cap zs) : (convert 22 9 (.slice a n cap)).run Tryd.prog w = .ok (.string (strOfNums zs)) w := by
  obtain ⟨h1, h2, h3, h4⟩ := h
  cases a with
  | none =>
    have hz : n = 0 := by
      rcases Nat.eq_zero_or_pos n with h | h
      · exact h
      · obtain ⟨_, _, e, _⟩ := h4 0 h; cases e
    subst hz
    have hx : zs = [] := List.eq_nil_of_length_eq_zero h3
    subst hx
    rw [run_convert_bytes_nil w 22 5 Tryd.underlying22 Tryd.underlying5 0 cap 9 Tryd.underlying9]
    rfl
  | some x =>
    rcases Nat.eq_zero_or_pos n with hn | hn
    · subst hn
      have hx : zs = [] := List.eq_nil_of_length_eq_zero h3
      subst hx
      have hl : (loadCells x 0).run Tryd.prog w = .ok #[] w := by
        have := run_loadCells_list (P := Tryd.prog) w x [] (fun j v hj => by simp at hj)
        simpa using this
      rw [run_convert_bytes_string w 22 9 5 _ 0 cap Tryd.underlying22 Tryd.underlying5 Tryd.underlying9, run_bytesToString w x 0 cap [] (by simpa using hl)]
      rfl
    · obtain ⟨b, off, e, _⟩ := h4 0 hn
      cases e
      refine run_convert_bytes_arg w 22 5 Tryd.underlying22 Tryd.underlying5 b off n cap zs h3 (fun i hi => ?_) 9 Tryd.underlying9
      obtain ⟨b', off', e, _, hc, _⟩ := h4 i hi
      cases e
      exact hc

/-- Are they more than are looked at? -/
def isGreat (m : Nat) (acts : List Act) : Bool := decide (m < acts.length) || acts.any fun a => decide (100 < a.l.length)

section
variable (a : Option Addr) (len cap : Nat) (acts : List Act) (w : World) (h : IsActs w a len cap acts)
include h

set_option maxHeartbeats 1000000 in
theorem great_any : Calls Tryd.prog 20 #[.slice a len cap] w fun e w' => e = .returned (.bool (isGreat 100 acts)) ∧ Below w.heap.size w w' := by
  obtain ⟨h1, h2, h3, h4⟩ := h
  have HL := Lib.hid h3
  have HA : Hid _ := h4
  unfold maxLen at h2
  clear h3 h4
  by_cases hbig : 100 < len
  · go_enter Tryd.func20, Tryd.ntmps20
    go_wp2
    go_ret
    exact ⟨ret_bool (by unfold isGreat; rw [decide_eq_true (by have := HL.out; omega)]; simp), Below.refl _ _⟩
  · go_enter Tryd.func20, Tryd.ntmps20
    go_wp2
    go_loopg [10] len (fun g v10 wr => ∃ i : Nat, i + g = len ∧ v10 = .int .i64 i ∧ Hid ((acts.take i).any (fun a => decide (100 < a.l.length)) = false) ∧ Below w.heap.size w wr)
    case atStart => exact ⟨0, by omega, rfl, rfl, Below.refl _ _⟩
    case round =>
      obtain ⟨i, hi, rfl, hno, hbel⟩ := hrel
      by_cases hlt : i < len
      · obtain ⟨b, off, act, rfl, hb, hact, la, ln, lc, c0, c1, c2, c3, hl, _⟩ := HA.out i hlt
        have d0 := (hbel.cell (p := ⟨b, off + i * 4, none⟩) hb).trans c0
        have d1 := (hbel.cell (p := ⟨b, off + i * 4 + 1, none⟩) hb).trans c1
        have d2 := (hbel.cell (p := ⟨b, off + i * 4 + 2, none⟩) hb).trans c2
        have d3 := (hbel.cell (p := ⟨b, off + i * 4 + 3, none⟩) hb).trans c3
        have HLL := Lib.hid hl
        clear c0 c1 c2 c3 hl
        have HACT := Lib.hid hact
        clear hact
        have hsn : acts.take (i + 1) = acts.take i ++ [act] := by
          rw [List.take_add_one, HACT.out]; rfl
        have HSN := Lib.hid hsn
        have hll : act.l.length = ln := HLL.out.2.2.1
        have HLE := Lib.hid hll
        clear hsn hll
        by_cases hbl : 100 < ln
        · go_wp2
          go_ret
          refine ⟨ret_bool ?_, hbel.alloc hbel.size _⟩
          have hm : act ∈ acts := List.mem_of_getElem? HACT.out
          have : acts.any (fun a => decide (100 < a.l.length)) = true := List.any_eq_true.2 ⟨act, hm, decide_eq_true (by have := HLE.out; omega)⟩
          unfold isGreat
          rw [this, Bool.or_true]
        · go_wp2
          go_roundg (len - (i + 1))
          case measure => omega
          case rel =>
            refine ⟨i + 1, by omega, by go_num, ?_, hbel.alloc hbel.size _⟩
            show _ = _
            rw [HSN.out, List.any_append, hno.out]
            simp only [List.any_cons, List.any_nil, Bool.or_false, Bool.false_or]
            exact decide_eq_false (by have := HLE.out; omega)
      · have hin : i = len := by omega
        subst hin
        go_wp2
        go_ret
        refine ⟨ret_bool ?_, hbel⟩
        have := hno.out
        rw [List.take_of_length_le (by have := HL.out; omega)] at this
        unfold isGreat
        rw [this, decide_eq_false (by have := HL.out; omega)]
        rfl

set_option maxHeartbeats 1000000 in
theorem great7_any : Calls Tryd.prog 29 #[.slice a len cap] w fun e w' => e = .returned (.bool (isGreat 150 acts)) ∧ Below w.heap.size w w' := by
  obtain ⟨h1, h2, h3, h4⟩ := h
  have HL := Lib.hid h3
  have HA : Hid _ := h4
  unfold maxLen at h2
  clear h3 h4
  by_cases hbig : 150 < len
  · go_enter Tryd.func29, Tryd.ntmps29
    go_wp2
    go_ret
    exact ⟨ret_bool (by unfold isGreat; rw [decide_eq_true (by have := HL.out; omega)]; simp), Below.refl _ _⟩
  · go_enter Tryd.func29, Tryd.ntmps29
    go_wp2
    go_loopg [10] len (fun g v10 wr => ∃ i : Nat, i + g = len ∧ v10 = .int .i64 i ∧ Hid ((acts.take i).any (fun a => decide (100 < a.l.length)) = false) ∧ Below w.heap.size w wr)
    case atStart => exact ⟨0, by omega, rfl, rfl, Below.refl _ _⟩
    case round =>
      obtain ⟨i, hi, rfl, hno, hbel⟩ := hrel
      by_cases hlt : i < len
      · obtain ⟨b, off, act, rfl, hb, hact, la, ln, lc, c0, c1, c2, c3, hl, _⟩ := HA.out i hlt
        have d0 := (hbel.cell (p := ⟨b, off + i * 4, none⟩) hb).trans c0
        have d1 := (hbel.cell (p := ⟨b, off + i * 4 + 1, none⟩) hb).trans c1
        have d2 := (hbel.cell (p := ⟨b, off + i * 4 + 2, none⟩) hb).trans c2
        have d3 := (hbel.cell (p := ⟨b, off + i * 4 + 3, none⟩) hb).trans c3
        have HLL := Lib.hid hl
        clear c0 c1 c2 c3 hl
        have HACT := Lib.hid hact
        clear hact
        have hsn : acts.take (i + 1) = acts.take i ++ [act] := by
          rw [List.take_add_one, HACT.out]; rfl
        have HSN := Lib.hid hsn
        have hll : act.l.length = ln := HLL.out.2.2.1
        have HLE := Lib.hid hll
        clear hsn hll
        by_cases hbl : 100 < ln
        · go_wp2
          go_ret
          refine ⟨ret_bool ?_, hbel.alloc hbel.size _⟩
          have hm : act ∈ acts := List.mem_of_getElem? HACT.out
          have : acts.any (fun a => decide (100 < a.l.length)) = true := List.any_eq_true.2 ⟨act, hm, decide_eq_true (by have := HLE.out; omega)⟩
          unfold isGreat
          rw [this, Bool.or_true]
        · go_wp2
          go_roundg (len - (i + 1))
          case measure => omega
          case rel =>
            refine ⟨i + 1, by omega, by go_num, ?_, hbel.alloc hbel.size _⟩
            show _ = _
            rw [HSN.out, List.any_append, hno.out]
            simp only [List.any_cons, List.any_nil, Bool.or_false, Bool.false_or]
            exact decide_eq_false (by have := HLE.out; omega)
      · have hin : i = len := by omega
        subst hin
        go_wp2
        go_ret
        refine ⟨ret_bool ?_, hbel⟩
        have := hno.out
        rw [List.take_of_length_le (by have := HL.out; omega)] at this
        unfold isGreat
        rw [this, decide_eq_false (by have := HL.out; omega)]
        rfl
end

end Go.Proofs.YthpdphbppapkhaaDoor
