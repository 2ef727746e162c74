/-
  The walk of QuoteBack. Condition: the bytes are at most 1048576.
-/
import Derived.Test.YthjaemocnlhkdaaAlive
import Derived.Test.YthjaemocnlhkdaaLaw
namespace Go.Proofs.Ythjaemocnlhkdaa.quoteBack
open Go.RowKit

theorem nums_str (l : List UInt8) : strOfNums (l.map fun c => (c.toNat : Int)) = ⟨l.toArray⟩ := by
  unfold strOfNums
  congr 2
  rw [List.map_map]
  conv => rhs; rw [← List.map_id l]
  exact List.map_congr_left (fun c _ => by simp)

/-- An argument's bytes, as a text. -/
theorem IsBytes.conv {w : World} {a : Option Addr} {n cap : Nat} {l : List UInt8} (h : IsBytes w a n cap l) : (convert 22 9 (.slice a n cap)).run Try.prog w = .ok (.string ⟨l.toArray⟩) w := by
  obtain ⟨h1, h2, h3, h4⟩ := h
  rw [← nums_str l]
  cases a with
  | none =>
    have hz : n = 0 := by
      rcases Nat.eq_zero_or_pos n with h | h
      · exact h
      · obtain ⟨_, _, e, _⟩ := h4 0 h; cases e
    subst hz
    have hx : l = [] := List.eq_nil_of_length_eq_zero h3
    subst hx
    rw [run_convert_bytes_nil w 22 5 Try.underlying22 Try.underlying5 0 cap 9 Try.underlying9]
    rfl
  | some x =>
    rcases Nat.eq_zero_or_pos n with hn | hn
    · subst hn
      have hx : l = [] := List.eq_nil_of_length_eq_zero h3
      subst hx
      have hl : (loadCells x 0).run Try.prog w = .ok #[] w := by
        have := run_loadCells_list (P := Try.prog) w x [] (fun j v hj => by simp at hj)
        simpa using this
      rw [run_convert_bytes_string w 22 9 5 _ 0 cap Try.underlying22 Try.underlying5 Try.underlying9, run_bytesToString w x 0 cap [] (by simpa using hl)]
      rfl
    · obtain ⟨b, off, e, _⟩ := h4 0 hn
      cases e
      refine run_convert_bytes_arg w 22 5 Try.underlying22 Try.underlying5 b off n cap (l.map fun c => (c.toNat : Int)) (by simpa using h3) (fun i hi => ?_) 9 Try.underlying9
      obtain ⟨b', off', e, _, hc⟩ := h4 i hi
      cases e
      rw [hc]
      simp [List.getD_eq_getElem?_getD, show i < l.length by omega]

theorem quote_size (l : List UInt8) : (⟨(quoteL l).toArray⟩ : ByteArray).size = (l.flatMap q1).length + 2 := by
  rw [str_size]; simp [quoteL]

theorem quote_first (l : List UInt8) (h : 0 < (⟨(quoteL l).toArray⟩ : ByteArray).size) : (⟨(quoteL l).toArray⟩ : ByteArray)[0] = 34 := rfl

theorem quote_last (l : List UInt8) (m : Nat) (hm : (l.flatMap q1).length = m) (h : m + 1 < (⟨(quoteL l).toArray⟩ : ByteArray).size) : (⟨(quoteL l).toArray⟩ : ByteArray)[m + 1] = 34 := by
  subst hm
  show (quoteL l).toArray[(l.flatMap q1).length + 1] = 34
  simp [quoteL]

theorem quote_mid (l : List UInt8) (m : Nat) (hm : (l.flatMap q1).length = m) (i : Nat) (h1 : 1 ≤ i) (h2 : i < m + 1) (h : i < (⟨(quoteL l).toArray⟩ : ByteArray).size) :
    ((⟨(quoteL l).toArray⟩ : ByteArray)[i]).toNat = 92 ∨ plain (⟨(quoteL l).toArray⟩ : ByteArray)[i] = true := by
  subst hm
  refine quoted_byte l ?_
  obtain ⟨j, rfl⟩ : ∃ j, i = j + 1 := ⟨i - 1, by omega⟩
  have : (⟨(quoteL l).toArray⟩ : ByteArray)[j + 1] = (l.flatMap q1)[j]'(by omega) := by
    show (quoteL l).toArray[j + 1] = _
    simp [quoteL]
    rw [List.getElem_append_left]
  rw [this]
  exact List.getElem_mem _

theorem quoted (l : List UInt8) : ∃ (q : ByteArray) (m : Nat), Hid (q = ⟨(quoteL l).toArray⟩) ∧ m ≤ 4 * l.length ∧ ∃ hs : q.size = m + 2, q[0] = 34 ∧ q[m + 1] = 34 ∧
    Hid (∀ (i : Nat) (_ : 1 ≤ i) (_ : i < m + 1) (h : i < q.size), (q[i]).toNat = 92 ∨ plain q[i] = true) := by
  have hsz := quote_size l
  exact ⟨_, _, rfl, flat_le l, hsz, quote_first l (by omega), quote_last l _ rfl (by omega), quote_mid l _ rfl⟩

set_option maxRecDepth 100000 in
set_option maxHeartbeats 2000000 in
theorem walk (a : Option Addr) (n cap : Nat) (l : List UInt8) (w : World) (h : IsBytes w a n cap l) (hn : n ≤ 1048576) : Calls Try.prog 5 #[.slice a n cap] w fun e w' => e = .returned (.bool true) ∧ Below w.heap.size w w' := by
  obtain ⟨B, hB⟩ : ∃ B, w.heap.size = B := ⟨_, rfl⟩
  have H := Lib.hid h
  have hln := h.2.2.1
  obtain ⟨q, m, hq, hfl, hsz, h0, h1, HM⟩ := quoted l
  have HQ : Hid (Calls Try.prog 14 #[.slice a n cap] w fun e w' => e = .returned (.string q) ∧ Below w.heap.size w w') := by
    rw [hq.out]
    exact quote_any a n cap l w h (by omega)
  have HU : Hid (∀ w, Calls Try.prog 16 #[.string q] w (UnqPost w.heap.size w (l, 0, 0))) := fun w => by
    have := unquote_any q w (by rw [hsz]; omega)
    have e : q.data.toList = quoteL l := by rw [hq.out]
    rw [e, unq_quote] at this
    exact this
  obtain ⟨T, hT⟩ : ∃ T : ByteArray, ⟨l.toArray⟩ = T := ⟨_, rfl⟩
  have HT := Lib.hid hT
  have hnc := h.1
  clear h hT hq
  go_enter Try.func5, Try.ntmps5
  go_wp2_with fail
  refine Calls.mono HQ.out ?_
  rintro e w1 ⟨rfl, hb1⟩
  have HB1 := Lib.hid hb1
  clear hb1 HQ
  go_wp2_with fail
  refine Calls.mono (HU.out w1) ?_
  rintro e w2 ⟨v, rfl, ho2, hb2⟩
  have hc1 : (convert 22 9 v).run Try.prog w2 = .ok (.string T) w2 := by rw [← HT.out]; exact conv_own ho2
  have HB2 := Lib.hid (HB1.out.trans (hb2.mono HB1.out.size))
  have hc2 : (convert 22 9 (.slice a n cap)).run Try.prog w2 = .ok (.string T) w2 := by rw [← HT.out]; exact IsBytes.conv (H.out.below HB2.out)
  clear ho2 hb2 HU
  have e1 : (((34 : UInt8).toNat : Nat) : Int) = 34 := rfl
  go_wp2_with fail
  go_loopg [7] m (fun g v7 wr => ∃ i : Nat, 1 ≤ i ∧ i + g = m + 1 ∧ v7 = .int .i64 i ∧ wr = w2)
  case atStart => exact ⟨1, by omega, by omega, rfl, rfl⟩
  case round =>
    obtain ⟨i, hi1, hi, rfl, rfl⟩ := hrel
    by_cases hlt : i < m + 1
    · have hx := HM.out i hi1 hlt (by omega)
      obtain ⟨c, hc⟩ : ∃ c, q[i]'(by omega) = c := ⟨_, rfl⟩
      rw [hc] at hx
      have HP := Lib.hid (ref_plain c wr)
      obtain ⟨d, hd⟩ : ∃ d, c.toNat = d := ⟨_, rfl⟩
      rw [hd] at hx HP
      clear hc1 hc2 h0 h1
      by_cases h92 : d = 92
      · subst h92
        have z : (((92 : Nat) : Int) != 92) = false := rfl
        clear hx HP
        go_wp2_with fail
        go_roundg (m - i)
        case measure => omega
        case rel => exact ⟨i + 1, by omega, by omega, by go_num, rfl⟩
      · have z : ((d : Int) != 92) = true := by simp; omega
        have hp : plain c = true := by rcases hx with hx | hx; · exact absurd hx h92
                                       · exact hx
        rw [hp] at HP
        clear hx hp
        go_wp2_with fail
        refine Calls.mono HP.out ?_
        rintro e w3 ⟨rfl, rfl⟩
        go_wp2_with fail
        go_roundg (m - i)
        case measure => omega
        case rel => exact ⟨i + 1, by omega, by omega, by go_num, rfl⟩
    · have hin : i = m + 1 := by omega
      subst hin
      clear hc1 hc2 h0 h1
      go_wp2_with fail
      refine (alive_any wr).mono ?_
      rintro e w3 ⟨rfl, hb3⟩
      have HB3 := Lib.hid (HB2.out.trans (hb3.mono HB2.out.size))
      clear hb3 HB2
      go_wp2_with fail
      go_ret
      exact ⟨ret_bool (by simp; omega), HB3.out⟩

end Go.Proofs.Ythjaemocnlhkdaa.quoteBack
