/-
  The walk of RelayNews. Condition: the table 'other' reads as the program's text lays it.
-/
import Derived.Test.YthpdphbppapkhaaDoorAlive7
namespace Go.Proofs.YthpdphbppapkhaaDoor.relayNews
open Go.RowKit qb

set_option maxRecDepth 100000 in
set_option maxHeartbeats 2000000 in
theorem walk (a0 a1 a2 : Int) (w : World) (_h0 : I64 a0) (_h1 : I64 a1) (_h2 : I64 a2) (ho : Oth w) : Calls Tryd.prog 11 #[.int .i64 a0, .int .i64 a1, .int .i64 a2] w fun e w' => e = .returned (.bool true) ∧ Below w.heap.size w w' := by
  have HO := Lib.hid ho
  clear ho
  go_enter Tryd.func11, Tryd.ntmps11
  go_wp2_with fail
  refine (transcript_nil w).mono ?_
  rintro e w1 ⟨rfl, hb1⟩
  obtain ⟨B, hB⟩ : ∃ B, w1.heap.size = B := ⟨_, rfl⟩
  go_wp2_with fail
  obtain ⟨w2, hw2⟩ : ∃ w2, w1.alloc (.cells #[.slice none 0 0, .bool false] 63) = w2 := ⟨_, rfl⟩
  have g : w2.heap[B]? = some (.cells #[.slice none 0 0, .bool false] 63 (0, 0)) := by rw [← hw2, ← hB]; exact heap_alloc_new w1 _
  have g0 : w2.cell? ⟨B, 0, none⟩ = some (.slice none 0 0) := cell_at g 0
  have g1 : w2.cell? ⟨B, 1, none⟩ = some (.bool false) := cell_at g 1
  have hb2 : Below w.heap.size w w2 := by rw [← hw2]; exact hb1.alloc hb1.size _
  have ho2 : Oth w2 := HO.out.below hb2 (Nat.le_refl _)
  have HO2 := Lib.hid ho2
  have HB2 := Lib.hid hb2
  rw [hw2]
  clear hb1 g hb2 ho2 HO
  refine (step_nil a0 a1 a2 w2).mono ?_
  rintro e w3 ⟨rfl, rfl⟩
  go_wp2_with fail
  refine (relay_waits_bad none a0 (.inl rfl) w2).mono ?_
  rintro e w3 ⟨rfl, rfl⟩
  go_wp2_with fail
  refine (done_nil w2).mono ?_
  rintro e w3 ⟨rfl, rfl⟩
  go_wp2_with fail
  refine (p_new 5 (by omega) (by omega) w2 HO2.out).mono ?_
  rintro e w4 ⟨p, F, rfl, hp, hb4, hF⟩
  have HP := Lib.hid hp
  have HB4 := Lib.hid hb4
  have HF : Hid _ := hF
  clear hp hb4 hF
  go_wp2_with fail
  refine (p_new 5 (by omega) (by omega) w4 HP.out.oth).mono ?_
  rintro e w5 ⟨q, G, rfl, hq, hb5, hG⟩
  have HQ := Lib.hid hq
  have HB5 := Lib.hid hb5
  have HG : Hid _ := hG
  have hlp : p < w4.heap.size := by
    have h := HP.out
    obtain ⟨b0, b1, F0, F1, hF, hpp, _⟩ := h
    exact (Array.getElem?_eq_some_iff.1 hpp).1
  have hlq : w4.heap.size ≤ q := by
    have h := HQ.out
    obtain ⟨b0, b1, F0, F1, hF, hpp, _⟩ := h
    exact HG.out q (by rw [hF]; simp)
  have HRN := Lib.hid (relay_new (w := w5) (ln := fun u => if u then p else q) (Fs := fun u => if u then F else G) (N := 5) (l := fun _ => line0)
    (fun d => by cases d; · exact HQ.out
                 · exact HP.out.below HB5.out (Nat.le_refl _))
    (fun k h1 h2 => by have := HP.out.lt k h1; have := HG.out k h2; omega) (by show p ≠ q; omega))
  simp only [if_true, Bool.false_eq_true, if_false] at HRN
  clear hq hb5 hG
  go_wp2_with fail
  refine (relay_nil1 (some ⟨p, 0, none⟩) w5).mono ?_
  rintro e w6 ⟨rfl, rfl⟩
  go_wp2_with fail
  refine (relay_nil2 p w5).mono ?_
  rintro e w6 ⟨rfl, rfl⟩
  go_wp2_with fail
  refine (relay_same p w5).mono ?_
  rintro e w6 ⟨rfl, rfl⟩
  go_wp2_with fail
  refine Calls.mono HRN.out ?_
  rintro e w6 ⟨R, H0, rfl, hrel, hb6, hRB, _, hH⟩
  have HRE := Lib.hid hrel
  have HB6 := Lib.hid hb6
  have HO6 : Hid (Oth w6) := (HQ.out.oth).below hb6 (Nat.le_refl _)
  clear hrel hb6 hH HRN
  go_wp2_with fail
  refine (alive7_any w6 HO6.out).mono ?_
  rintro e w7 ⟨rfl, hb7⟩
  have HR7 := Lib.hid (HRE.out.below hb7)
  have HB7 := Lib.hid hb7
  clear hb7
  go_wp2_with fail
  refine (relay_done HR7.out false rfl).mono ?_
  rintro e w8 ⟨rfl, rfl⟩
  go_wp2_with fail
  go_ret
  have s2 := HB2.out.size
  have s4 := HB4.out.size
  have s5 := HB5.out.size
  have s6 := HB6.out.size
  exact ⟨rfl, (((HB2.out.trans (HB4.out.mono s2)).trans (HB5.out.mono (by omega))).trans (HB6.out.mono (by omega))).trans (HB7.out.mono (by omega))⟩

end Go.Proofs.YthpdphbppapkhaaDoor.relayNews
