/-
  The walk of 'alive': the document's examples. No condition.
-/
import Derived.Test.YthjaemocnlhkdaaUnq
import Derived.Lib.SlBytesConst
namespace Go.Proofs.Ythjaemocnlhkdaa
open Go.RowKit

/-- What one owns, as a text. -/
theorem conv_own {w : World} {B : Nat} {v : Value} {l : List UInt8} (h : OwnB w B v l) : (convert 22 9 v).run Try.prog w = .ok (.string ⟨l.toArray⟩) w := by
  have es : ∀ l : List UInt8, strOfNums (l.map fun c => (c.toNat : Int)) = ⟨l.toArray⟩ := fun l => by
    unfold strOfNums
    congr 2
    rw [List.map_map]
    conv => rhs; rw [← List.map_id l]
    exact List.map_congr_left (fun c _ => by simp)
  rw [← es l]
  rcases h.2 with ⟨rfl, hz⟩ | ⟨g, cap, cur, rfl, _⟩
  · have hx : l = [] := List.eq_nil_of_length_eq_zero hz
    subst hx
    rw [run_convert_bytes_nil w 22 5 Try.underlying22 Try.underlying5 0 0 9 Try.underlying9]
    rfl
  · refine run_convert_bytes_arg w 22 5 Try.underlying22 Try.underlying5 g 0 l.length cap (l.map fun c => (c.toNat : Int)) (by simp) (fun i hi => ?_) 9 Try.underlying9
    have hc := h.cells (g := g) rfl i (.int .u8 ((l.map fun c => (c.toNat : Int)).getD i 0)) (by simp [Lib.byteCells, hi])
    have hadd : (⟨g, 0, none⟩ : Addr).add i = ⟨g, 0 + i, none⟩ := by unfold Addr.add; split <;> simp_all
    rwa [hadd] at hc

theorem unq_alive : unq [34, 92, 55, 120, 92, 49, 50, 51, 52, 34] = ([7, 120, 83, 52], 0, 0) := by
  simp [unq, unqLoop, esc, run8, digitB, nameAt, nameB]

theorem bytes_new (w : World) (l : List UInt8) (hl : l.length ≤ maxLen) : IsBytes (w.alloc (.cells (Lib.byteCells l).toArray 5)) (some ⟨w.heap.size, 0, none⟩) l.length l.length l :=
  ⟨Nat.le_refl _, hl, rfl, fun j hj => ⟨w.heap.size, 0, rfl, by simp, by
    rw [Nat.zero_add, World.cell?_alloc_new]
    simp [Lib.byteCells, hj]⟩⟩

theorem OwnB.below {w w' : World} {B : Nat} {v : Value} {l : List UInt8} (h : OwnB w B v l) (hb : Below w.heap.size w w') : OwnB w' B v l := by
  obtain ⟨hl, hn | ⟨g, cap, cur, rfl, hBg, hg, rest⟩⟩ := h
  · exact ⟨hl, .inl hn⟩
  · exact ⟨hl, .inr ⟨g, cap, cur, rfl, hBg, (hb.block g (Array.getElem?_eq_some_iff.1 hg).1).trans hg, rest⟩⟩

set_option maxRecDepth 100000 in
set_option maxHeartbeats 1000000 in
theorem alive_any (w : World) : Calls Try.prog 9 #[] w fun e w' => e = .returned (.bool true) ∧ Below w.heap.size w w' := by
  obtain ⟨B, hB⟩ : ∃ B, w.heap.size = B := ⟨_, rfl⟩
  have hu := unquote_any ⟨#[34, 92, 55, 120, 92, 49, 50, 51, 52, 34]⟩ w (by decide)
  rw [show unq (⟨#[34, 92, 55, 120, 92, 49, 50, 51, 52, 34]⟩ : ByteArray).data.toList = ([7, 120, 83, 52], 0, 0) from unq_alive] at hu
  have HU := Lib.hid hu
  have kc := fun (w : World) (C : Array Value) (n c : Nat) => Lib.run_convert_bytes_const (P := Try.prog) w 22 5 C n c Try.underlying22 Try.underlying5
  clear hu
  go_enter Try.func9, Try.ntmps9
  go_wp2_with fail
  refine Calls.mono HU.out ?_
  rintro e w1 ⟨v, rfl, hown, hb1⟩
  have HOWN := Lib.hid hown
  have HB1 := Lib.hid hb1
  clear hown hb1
  go_wp2_with fail
  obtain ⟨w2, hw2⟩ : ∃ w2, w1.alloc (.cells #[.int .u8 97, .int .u8 10, .int .u8 36] 5 (3, 4)) = w2 := ⟨_, rfl⟩
  have hb2 : Below w1.heap.size w1 w2 := by rw [← hw2]; exact (Below.refl _ _).alloc (Nat.le_refl _) _
  have hlit : IsBytes w2 (some ⟨w1.heap.size, 0, none⟩) 3 3 [97, 10, 36] := by
    rw [← hw2]
    refine ⟨Nat.le_refl _, by decide, rfl, fun j hj => ⟨w1.heap.size, 0, rfl, by simp, ?_⟩⟩
    rw [Nat.zero_add, World.cell?_alloc_mark]
    match j, hj with
    | 0, _ => rfl
    | 1, _ => rfl
    | 2, _ => rfl
  have HQ := Lib.hid (quote_any _ 3 3 [97, 10, 36] w2 hlit (by omega))
  rw [show quoteL [97, 10, 36] = [34, 97, 92, 48, 49, 50, 92, 48, 52, 52, 34] from by decide] at HQ
  have hown2 : OwnB w2 w.heap.size v [7, 120, 83, 52] := HOWN.out.below hb2
  have hbel2 : Below w.heap.size w w2 := HB1.out.trans (hb2.mono HB1.out.size)
  have HOWN2 := Lib.hid hown2
  have HBEL2 := Lib.hid hbel2
  clear hb2 hlit hown2 hbel2 kc HOWN HB1 HU
  rw [hw2]
  clear hw2
  refine Calls.mono HQ.out ?_
  rintro e w3 ⟨rfl, hb3⟩
  have hcv : (convert 22 9 v).run Try.prog w3 = .ok (.string ⟨#[7, 120, 83, 52]⟩) w3 := conv_own (HOWN2.out.below hb3)
  have hbel3 : Below w.heap.size w w3 := HBEL2.out.trans (hb3.mono HBEL2.out.size)
  have HBEL3 := Lib.hid hbel3
  clear hb3 hbel3
  go_wp2_with fail
  go_ret
  exact ⟨rfl, HBEL3.out⟩

end Go.Proofs.Ythjaemocnlhkdaa
