/-
  The walk of QuoteBytes. Condition: the bytes are at most 1048576.
-/
import Derived.Test.YthjaemocnlhkdaaAlive
namespace Go.Proofs.Ythjaemocnlhkdaa.quoteBytes
open Go.RowKit

set_option maxRecDepth 100000 in
set_option maxHeartbeats 2000000 in
theorem walk (a : Option Addr) (n cap : Nat) (l : List UInt8) (c : UInt8) (w : World) (h : IsBytes w a n cap l) (hn : n ≤ 1048576) : Calls Try.prog 3 #[.slice a n cap, .int .u8 (c.toNat : Int)] w fun e w' => e = .returned (.bool true) ∧ Below w.heap.size w w' := by
  obtain ⟨B, hB⟩ : ∃ B, w.heap.size = B := ⟨_, rfl⟩
  have H := Lib.hid h
  have HBw := Lib.hid (Below.refl w.heap.size w)
  clear h
  go_enter Try.func3, Try.ntmps3
  go_wp2_with fail
  refine (alive_any w).mono ?_
  rintro e w1 ⟨rfl, hb1⟩
  have HB1 := Lib.hid hb1
  clear hb1 HBw
  go_wp2_with fail
  refine (plain_any c w1).mono ?_
  rintro e w2 ⟨rfl, rfl⟩
  obtain ⟨pl, hpl⟩ : ∃ pl, plain c = pl := ⟨_, rfl⟩
  have HRP := Lib.hid (ref_plain c w1)
  rw [hpl] at HRP ⊢
  clear hpl
  go_wp2_with fail
  refine Calls.mono HRP.out ?_
  rintro e w2 ⟨rfl, rfl⟩
  clear HRP
  go_wp2_with fail
  refine (octal_any c w1).mono ?_
  rintro e w2 ⟨rfl, hb2⟩
  have HB2 := Lib.hid (HB1.out.trans (hb2.mono HB1.out.size))
  have HRO := Lib.hid (ref_octal c w2)
  obtain ⟨o, ho⟩ : ∃ o : ByteArray, ⟨(octal c).toArray⟩ = o := ⟨_, rfl⟩
  rw [ho] at HRO ⊢
  clear hb2 HB1 ho
  go_wp2_with fail
  refine Calls.mono HRO.out ?_
  rintro e w3 ⟨rfl, hb3⟩
  have HB3 := Lib.hid (HB2.out.trans (hb3.mono HB2.out.size))
  clear hb3 HB2 HRO
  have hw3 := H.out.below HB3.out
  have HQ := Lib.hid (quote_any a n cap l w3 hw3 (by omega))
  obtain ⟨q, hq⟩ : ∃ q : ByteArray, ⟨(quoteL l).toArray⟩ = q := ⟨_, rfl⟩
  have HRQ : Hid (∀ w4 : World, IsBytes w4 a n cap l → Calls Try.prog 15 #[.slice a n cap] w4 fun e w' => e = .returned (.string q) ∧ Below w4.heap.size w4 w') := fun w4 h4 => by
    rw [← hq]
    exact ref_quote_any a n cap l w4 h4 (by omega)
  rw [hq] at HQ
  clear hq hw3
  go_wp2_with fail
  refine Calls.mono HQ.out ?_
  rintro e w4 ⟨rfl, hb4⟩
  have HB4 := Lib.hid (HB3.out.trans (hb4.mono HB3.out.size))
  clear hb4 HB3 HQ
  go_wp2_with fail
  refine Calls.mono (HRQ.out w4 (H.out.below HB4.out)) ?_
  rintro e w5 ⟨rfl, hb5⟩
  have HB5 := Lib.hid (HB4.out.trans (hb5.mono HB4.out.size))
  clear hb5 HB4 HRQ
  go_wp2_with fail
  go_ret
  exact ⟨rfl, HB5.out⟩

end Go.Proofs.Ythjaemocnlhkdaa.quoteBytes
