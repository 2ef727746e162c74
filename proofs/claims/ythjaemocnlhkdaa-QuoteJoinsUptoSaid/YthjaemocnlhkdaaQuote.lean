/-
  The walks of Quote, the program's and the document's. Condition: what is told takes at most 2^47 bytes.
-/
import Derived.Test.YthjaemocnlhkdaaBuilder
namespace Go.Proofs.Ythjaemocnlhkdaa
open Go.RowKit

/-- A slice of bytes in memory. -/
def IsBytes (w : World) (a : Option Addr) (n cap : Nat) (l : List UInt8) : Prop :=
  n ≤ cap ∧ cap ≤ maxLen ∧ l.length = n ∧ ∀ j, j < n → ∃ b off, a = some ⟨b, off, none⟩ ∧ b < w.heap.size ∧ w.cell? ⟨b, off + j, none⟩ = some (.int .u8 ((l.getD j 0).toNat : Int))

theorem IsBytes.below {w w' : World} {a : Option Addr} {n cap : Nat} {l : List UInt8} (h : IsBytes w a n cap l) (hb : Below w.heap.size w w') : IsBytes w' a n cap l := by
  obtain ⟨h1, h2, h3, h4⟩ := h
  refine ⟨h1, h2, h3, fun j hj => ?_⟩
  obtain ⟨b, off, e, hlt, hc⟩ := h4 j hj
  exact ⟨b, off, e, Nat.lt_of_lt_of_le hlt hb.size, (hb.cell (p := ⟨b, off + j, none⟩) hlt).trans hc⟩

theorem builderAt_below {B b : Nat} {p : Value} {bs : List Value} {w w' : World} (h : Lib.BuilderAt 45 5 B b p bs w) (hb : Below w.heap.size w w') : Lib.BuilderAt 45 5 B b p bs w' := by
  obtain ⟨hB, v, hbk, hown, hne⟩ := h
  refine ⟨hB, v, (hb.block b (Array.getElem?_eq_some_iff.1 hbk).1).trans hbk, ?_, hne⟩
  obtain ⟨hl, hn | ⟨g, cap, cur, rfl, hBg, hg, rest⟩⟩ := hown
  · exact ⟨hl, .inl hn⟩
  · exact ⟨hl, .inr ⟨g, cap, cur, rfl, hBg, (hb.block g (Array.getElem?_eq_some_iff.1 hg).1).trans hg, rest⟩⟩

theorem isBuilder_below {B b : Nat} {bs : List Value} {w w' : World} (h : Lib.IsBuilder 45 5 B b bs w) (hb : Below w.heap.size w w') : Lib.IsBuilder 45 5 B b bs w' := by
  rcases h with h | h
  · exact .inl (builderAt_below h hb)
  · exact .inr (builderAt_below h hb)

/-- A byte between quotes. -/
def q1 (c : UInt8) : List UInt8 := if plain c then [c] else octal c

/-- Bytes between quotes. -/
def quoteL (l : List UInt8) : List UInt8 := 34 :: l.flatMap q1 ++ [34]

theorem q1_le (c : UInt8) : (q1 c).length ≤ 4 := by
  unfold q1
  split <;> simp [octal]

theorem q1_pos (c : UInt8) : 1 ≤ (q1 c).length := by
  unfold q1
  split <;> simp [octal]

theorem flat_le : ∀ l : List UInt8, (l.flatMap q1).length ≤ 4 * l.length
  | [] => by simp
  | c :: l => by
    have h1 := q1_le c
    have h2 := flat_le l
    simp only [List.flatMap_cons, List.length_append, List.length_cons]
    omega

theorem quoteL_le (l : List UInt8) : (quoteL l).length ≤ 4 * l.length + 2 := by
  have := flat_le l
  simp only [quoteL, List.length_append, List.length_cons, List.length_nil]
  omega

theorem flat_take (l : List UInt8) {i : Nat} (h : i < l.length) : (l.take (i + 1)).flatMap q1 = (l.take i).flatMap q1 ++ q1 (l.getD i 0) := by
  rw [List.take_succ_eq_append_getElem h, List.flatMap_append]
  simp [List.getD_eq_getElem?_getD, h]

set_option maxRecDepth 100000 in
set_option maxHeartbeats 1000000 in
theorem quote_any (a : Option Addr) (n cap : Nat) (l : List UInt8) (w : World) (h : IsBytes w a n cap l) (hl : 4 * n + 2 ≤ 140737488355328) :
    Calls Try.prog 14 #[.slice a n cap] w fun e w' => e = .returned (.string ⟨(quoteL l).toArray⟩) ∧ Below w.heap.size w w' := by
  have hnc := h.1
  have hcm := h.2.1
  unfold maxLen at hcm
  have HLN := Lib.hid h.2.2.1
  have HC : Hid _ := h.2.2.2
  obtain ⟨B, hB⟩ : ∃ B, w.heap.size = B := ⟨_, rfl⟩
  have hb0 : Lib.IsBuilder 45 5 w.heap.size w.heap.size [] (w.alloc (.cells #[.pointer none, .slice none 0 0] 45)) := Lib.fresh_isBuilder 45 5 w
  have hbel0 : Below w.heap.size w (w.alloc (.cells #[.pointer none, .slice none 0 0] 45)) := (Below.refl _ _).alloc (Nat.le_refl _) _
  rw [hB] at hb0 hbel0 HC
  have HB0 := Lib.hid hb0
  have HBEL0 := Lib.hid hbel0
  clear h hb0 hbel0
  go_enter Try.func14, Try.ntmps14
  go_wp2_with fail
  refine (write_byte B B [] 34 _ HB0.out (by simp) (by simp; omega)).mono ?_
  rintro e w1 ⟨rfl, hb1, hbel1⟩
  have hst : Lib.IsBuilder 45 5 B B (Lib.byteCells (34 :: (l.take 0).flatMap q1)) w1 ∧ Below B w w1 := ⟨hb1, HBEL0.out.trans hbel1⟩
  clear hb1 hbel1 HB0 HBEL0
  go_wp2_with fail
  go_loopg [9] n (fun g v9 wr => ∃ i : Nat, i + g = n ∧ v9 = .int .i64 i ∧ Lib.IsBuilder 45 5 B B (Lib.byteCells (34 :: (l.take i).flatMap q1)) wr ∧ Below B w wr)
  case atStart => exact ⟨0, by omega, rfl, hst⟩
  case round =>
    clear hst
    obtain ⟨i, hi, rfl, hb, hbel⟩ := hrel
    have hlen : (Lib.byteCells (34 :: (l.take i).flatMap q1)).length ≤ 4 * i + 1 := by
      rw [Lib.byteCells_length, List.length_cons]
      have := flat_le (l.take i)
      rw [List.length_take] at this
      omega
    have hBw : B ≤ wr.heap.size := by have := hbel.size; omega
    by_cases hlt : i < n
    · obtain ⟨bb, off, rfl, hblt, hc⟩ := HC.out i hlt
      have hx := (hbel.cell (p := ⟨bb, off + i, none⟩) hblt).trans hc
      have HNX : Hid (34 :: (l.take (i + 1)).flatMap q1 = (34 :: (l.take i).flatMap q1) ++ q1 (l.getD i 0)) := by
        show _ = _
        rw [flat_take l (by have := HLN.out; omega), List.cons_append]
      obtain ⟨c, hcc⟩ : ∃ c, l.getD i 0 = c := ⟨_, rfl⟩
      rw [hcc] at hx HNX
      have HB := Lib.hid hb
      have HBEL := Lib.hid hbel
      have HLEN := Lib.hid hlen
      clear hc hcc hb hbel hlen
      go_wp2_with fail
      refine (plain_any c _).mono ?_
      rintro e w2 ⟨rfl, rfl⟩
      by_cases hp : plain c = true
      · have hq : q1 c = [c] := by unfold q1; rw [if_pos hp]
        rw [hp]
        rw [hq] at HNX
        clear hp hq
        go_wp2_with fail
        refine (write_byte B B _ (c.toNat : Int) _ HB.out (by have := HLEN.out; omega) hBw).mono ?_
        rintro e w2 ⟨rfl, hb2, hbel2⟩
        have HB2 := Lib.hid hb2
        have HBEL2 := Lib.hid hbel2
        clear hb2 hbel2
        go_wp2_with fail
        go_roundg (n - (i + 1))
        case measure => omega
        case rel =>
          refine ⟨i + 1, by omega, by go_num, ?_, HBEL.out.trans HBEL2.out⟩
          rw [HNX.out, Lib.byteCells_append]
          exact HB2.out
      · rw [Bool.not_eq_true] at hp
        have hq : q1 c = octal c := by unfold q1; rw [hp]; rfl
        rw [hp]
        rw [hq] at HNX
        clear hp hq
        go_wp2_with fail
        refine (octal_any c _).mono ?_
        rintro e w2 ⟨rfl, hb2⟩
        have hbel2 : Below B w w2 := HBEL.out.trans (hb2.mono hBw)
        have hbu2 : Lib.IsBuilder 45 5 B B (Lib.byteCells (34 :: (l.take i).flatMap q1)) w2 := isBuilder_below HB.out hb2
        have HBU2 := Lib.hid hbu2
        have HBEL2 := Lib.hid hbel2
        have hBw2 : B ≤ w2.heap.size := by have := hb2.size; omega
        clear hb2 hbel2 hbu2
        go_wp2_with fail
        refine (write_string B B _ ⟨(octal c).toArray⟩ _ HBU2.out (by have := HLEN.out; simp [octal, ByteArray.size]; omega) hBw2).mono ?_
        rintro e w3 ⟨rfl, hb3, hbel3⟩
        have HB3 := Lib.hid hb3
        have HBEL3 := Lib.hid hbel3
        clear hb3 hbel3
        go_wp2_with fail
        go_roundg (n - (i + 1))
        case measure => omega
        case rel =>
          refine ⟨i + 1, by omega, by go_num, ?_, HBEL2.out.trans HBEL3.out⟩
          rw [HNX.out, Lib.byteCells_append]
          exact HB3.out
    · have hin : i = n := by omega
      subst hin
      rw [List.take_of_length_le (by have := HLN.out; omega)] at hb hlen
      have HB := Lib.hid hb
      have HBEL := Lib.hid hbel
      have HLEN := Lib.hid hlen
      clear hb hbel hlen
      go_wp2_with fail
      refine (write_byte B B _ 34 _ HB.out (by have := HLEN.out; omega) hBw).mono ?_
      rintro e w2 ⟨rfl, hb2, hbel2⟩
      have hb2' : Lib.IsBuilder 45 5 B B (Lib.byteCells (quoteL l)) w2 := by
        unfold quoteL
        rw [Lib.byteCells_append]
        exact hb2
      have HB2 := Lib.hid hb2'
      have HBEL2 := Lib.hid hbel2
      have hBw2 : B ≤ w2.heap.size := by
        have h2 := hb2
        rcases h2 with h2 | h2
        · have := h2.lt; omega
        · have := h2.lt; omega
      clear hb2 hbel2 hb2'
      go_wp2_with fail
      refine (Try.Builder_String_any B B (quoteL l) _ HB2.out hBw2).mono ?_
      rintro e w3 ⟨rfl, hb3⟩
      have HBEL3 := Lib.hid hb3
      clear hb3
      go_wp2_with fail
      go_ret
      rw [hB]
      exact ⟨rfl, (HBEL.out.trans HBEL2.out).trans HBEL3.out⟩

theorem str_append (x y : List UInt8) : (⟨x.toArray⟩ : ByteArray) ++ ⟨y.toArray⟩ = ⟨(x ++ y).toArray⟩ := by
  apply ByteArray.ext
  simp

theorem str_size (x : List UInt8) : (⟨x.toArray⟩ : ByteArray).size = x.length := by simp [ByteArray.size]

/-- One byte made a text. -/
theorem conv_one (w : World) (c : UInt8) : (convert 22 9 (.slice (some ⟨w.heap.size, 0, none⟩) 1 1)).run Try.prog (w.alloc (.cells #[.int .u8 (c.toNat : Int)] 5)) = .ok (.string ⟨[c].toArray⟩) (w.alloc (.cells #[.int .u8 (c.toNat : Int)] 5)) := by
  have h := conv_new w [(c.toNat : Int)]
  have e : strOfNums [(c.toNat : Int)] = ⟨[c].toArray⟩ := by simp [strOfNums]
  rw [e] at h
  exact h

set_option maxRecDepth 100000 in
set_option maxHeartbeats 1000000 in
theorem ref_quote_any (a : Option Addr) (n cap : Nat) (l : List UInt8) (w : World) (h : IsBytes w a n cap l) (hl : 4 * n + 2 ≤ 140737488355328) :
    Calls Try.prog 15 #[.slice a n cap] w fun e w' => e = .returned (.string ⟨(quoteL l).toArray⟩) ∧ Below w.heap.size w w' := by
  have hnc := h.1
  have hcm := h.2.1
  unfold maxLen at hcm
  have HLN := Lib.hid h.2.2.1
  have HC : Hid _ := h.2.2.2
  obtain ⟨B, hB⟩ : ∃ B, w.heap.size = B := ⟨_, rfl⟩
  rw [hB] at HC
  clear h
  go_enter Try.func15, Try.ntmps15
  go_wp2_with fail
  go_loopg [3, 4] n (fun g v3 v4 wr => ∃ i : Nat, i + g = n ∧ v4 = .int .i64 i ∧ v3 = .string ⟨(34 :: (l.take i).flatMap q1).toArray⟩ ∧ Below B w wr)
  case atStart => exact ⟨0, by omega, rfl, rfl, Below.refl _ _⟩
  case round =>
    obtain ⟨i, hi, rfl, rfl, hbel⟩ := hrel
    obtain ⟨S, hS⟩ : ∃ S, 34 :: (l.take i).flatMap q1 = S := ⟨_, rfl⟩
    have hlen : S.length ≤ 4 * i + 1 := by
      rw [← hS, List.length_cons]
      have := flat_le (l.take i)
      rw [List.length_take] at this
      omega
    have hBw : B ≤ wr.heap.size := by have := hbel.size; omega
    by_cases hlt : i < n
    · obtain ⟨bb, off, rfl, hblt, hc⟩ := HC.out i hlt
      have hx := (hbel.cell (p := ⟨bb, off + i, none⟩) hblt).trans hc
      have HNX : Hid (34 :: (l.take (i + 1)).flatMap q1 = S ++ q1 (l.getD i 0)) := by
        show _ = _
        rw [flat_take l (by have := HLN.out; omega), ← hS, List.cons_append]
      rw [hS]
      obtain ⟨c, hcc⟩ : ∃ c, l.getD i 0 = c := ⟨_, rfl⟩
      rw [hcc] at hx HNX
      have HBEL := Lib.hid hbel
      have hsz : (⟨S.toArray⟩ : ByteArray).size ≤ 4 * i + 1 := by rw [str_size]; exact hlen
      obtain ⟨T, hT⟩ : ∃ T : ByteArray, ⟨S.toArray⟩ = T := ⟨_, rfl⟩
      rw [hT] at hsz
      have HT := Lib.hid hT
      rw [hT]
      clear hc hcc hbel hlen hS hT
      go_wp2_with fail
      refine (ref_plain c _).mono ?_
      rintro e w2 ⟨rfl, rfl⟩
      by_cases hp : plain c = true
      · have hq : q1 c = [c] := by unfold q1; rw [if_pos hp]
        rw [hp]
        rw [hq] at HNX
        have hcv := conv_one wr c
        have hs1 : (⟨[c].toArray⟩ : ByteArray).size ≤ 1 := by rw [str_size]; simp
        obtain ⟨U, hU⟩ : ∃ U : ByteArray, ⟨[c].toArray⟩ = U := ⟨_, rfl⟩
        rw [hU] at hcv hs1
        have HU := Lib.hid hU
        clear hp hq hU
        go_wp2_with fail
        go_roundg (n - (i + 1))
        case measure => omega
        case rel =>
          refine ⟨i + 1, by omega, by go_num, ?_, HBEL.out.alloc hBw _⟩
          rw [HNX.out, ← HT.out, ← HU.out, str_append]
      · rw [Bool.not_eq_true] at hp
        have hq : q1 c = octal c := by unfold q1; rw [hp]; rfl
        rw [hp]
        rw [hq] at HNX
        clear hp hq
        go_wp2_with fail
        refine (ref_octal c _).mono ?_
        rintro e w2 ⟨rfl, hb2⟩
        have hbel2 : Below B w w2 := HBEL.out.trans (hb2.mono hBw)
        have HBEL2 := Lib.hid hbel2
        have hs1 : (⟨(octal c).toArray⟩ : ByteArray).size ≤ 4 := by rw [str_size]; simp [octal]
        obtain ⟨U, hU⟩ : ∃ U : ByteArray, ⟨(octal c).toArray⟩ = U := ⟨_, rfl⟩
        rw [hU] at hs1
        rw [hU]
        have HU := Lib.hid hU
        clear hb2 hbel2 hU
        go_wp2_with fail
        go_roundg (n - (i + 1))
        case measure => omega
        case rel =>
          refine ⟨i + 1, by omega, by go_num, ?_, HBEL2.out⟩
          rw [HNX.out, ← HT.out, ← HU.out, str_append]
    · have hin : i = n := by omega
      subst hin
      rw [hS]
      have hS2 : S = 34 :: l.flatMap q1 := by rw [← hS, List.take_of_length_le (by have := HLN.out; omega)]
      have hsz : (⟨S.toArray⟩ : ByteArray).size ≤ 4 * i + 1 := by rw [str_size]; exact hlen
      obtain ⟨T, hT⟩ : ∃ T : ByteArray, ⟨S.toArray⟩ = T := ⟨_, rfl⟩
      rw [hT] at hsz
      have HT := Lib.hid hT
      rw [hT]
      have HBEL := Lib.hid hbel
      have HS2 := Lib.hid hS2
      clear hS hT hbel hS2
      go_wp2_with fail
      go_ret
      rw [hB]
      refine ⟨ret_str ?_, HBEL.out⟩
      rw [← HT.out, HS2.out, show (⟨#[34]⟩ : ByteArray) = ⟨[34].toArray⟩ from rfl, str_append]
      rfl

end Go.Proofs.Ythjaemocnlhkdaa
