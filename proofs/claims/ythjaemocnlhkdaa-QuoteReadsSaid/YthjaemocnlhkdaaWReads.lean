/-
  The walk of QuoteReads. Condition: the text takes less than 2^47 bytes.
-/
import Derived.Test.YthjaemocnlhkdaaAlive
namespace Go.Proofs.Ythjaemocnlhkdaa.quoteReads
open Go.RowKit

set_option maxRecDepth 100000 in
set_option maxHeartbeats 2000000 in
theorem walk (s : ByteArray) (a : Int) (w : World) (hs : s.size < 140737488355328) : Calls Try.prog 4 #[.string s, .int .i64 a] w fun e w' => e = .returned (.bool true) ∧ Below w.heap.size w w' := by
  obtain ⟨R, hR⟩ : ∃ R, unq s.data.toList = R := ⟨_, rfl⟩
  obtain ⟨E, hE⟩ : ∃ E, esc s.data.toList a = E := ⟨_, rfl⟩
  have HU : Hid (∀ w, Calls Try.prog 16 #[.string s] w (UnqPost w.heap.size w R)) := fun w => by rw [← hR]; exact unquote_any s w hs
  have HV : Hid (∀ w, Calls Try.prog 17 #[.string s] w (UnqPost w.heap.size w R)) := fun w => by rw [← hR]; exact ref_unquote_any s w hs
  have HE : Hid (∀ w, Calls Try.prog 18 #[.string s, .int .i64 a] w fun e w' => e = .returned (.tuple #[.int .u8 (E.1.toNat : Int), .int .i64 E.2.1, .int .i64 E.2.2]) ∧ w = w') := fun w => by rw [← hE]; exact escape_any s a (by omega) w
  have HF : Hid (∀ w, Calls Try.prog 19 #[.string s, .int .i64 a] w fun e w' => e = .returned (.tuple #[.int .u8 (E.1.toNat : Int), .int .i64 E.2.1, .int .i64 E.2.2]) ∧ w = w') := fun w => by rw [← hE]; exact ref_escape_any s a (by omega) w
  obtain ⟨l, n1, n2⟩ := R
  obtain ⟨x, e1, e2⟩ := E
  clear hR hE hs
  obtain ⟨xi, hx⟩ : ∃ xi, (x.toNat : Int) = xi := ⟨_, rfl⟩
  simp only [] at HE HF
  rw [hx] at HE HF
  clear hx
  go_enter Try.func4, Try.ntmps4
  go_wp2_with fail
  refine Calls.mono (HU.out w) ?_
  rintro e w1 ⟨v, rfl, ho1, hb1⟩
  have HO1 := Lib.hid ho1
  have HB1 := Lib.hid hb1
  clear ho1 hb1 HU
  go_wp2_with fail
  refine Calls.mono (HV.out w1) ?_
  rintro e w2 ⟨u, rfl, ho2, hb2⟩
  have HO2 := Lib.hid (HO1.out.below hb2)
  have HP2 := Lib.hid ho2
  have HB2 := Lib.hid (HB1.out.trans (hb2.mono HB1.out.size))
  clear ho2 hb2 HV HO1 HB1
  go_wp2_with fail
  refine Calls.mono (HE.out w2) ?_
  rintro e w3 ⟨rfl, rfl⟩
  clear HE
  go_wp2_with fail
  refine Calls.mono (HF.out w2) ?_
  rintro e w3 ⟨rfl, rfl⟩
  clear HF
  go_wp2_with fail
  refine (alive_any w2).mono ?_
  rintro e w3 ⟨rfl, hb3⟩
  have hc1 := conv_own (HO2.out.below hb3)
  have hc2 := conv_own (HP2.out.below hb3)
  have HB3 := Lib.hid (HB2.out.trans (hb3.mono HB2.out.size))
  clear hb3 HO2 HP2 HB2
  go_wp2_with fail
  go_ret
  exact ⟨rfl, HB3.out⟩

end Go.Proofs.Ythjaemocnlhkdaa.quoteReads
