/-
  How the statements over lines begin: what the table 'other' holds, and how the arguments lie in memory. Condition of the rows: the table reads as the program's text lays it (the cards tie it).
-/
import Derived.Test.YthpdphbppapkhaaDoorAlive
import Derived.Test.YthpdphbppapkhaaDoorTie
import Derived.ProofKit
import Derived.LaidMore
import Derived.ShutString
import Derived.ChangeOld
import Derived.OpenShut
import Derived.Stop.Joined
namespace Go.Proofs.YthpdphbppapkhaaDoor
open Go.RowKit Go.ChangeShapes Go.WideShapes Go.ChangeAt Go.WideElems

theorem own : ownKnob Tryd.prog.godebug = none := by kernel_rfl
theorem laidOut : laidOutB Tryd.prog = true := by kernel_rfl
theorem gOther : Tryd.prog.globalNamed "cuecard/pty.other" = some 0 := by kernel_rfl
theorem tOther : (Tryd.prog.globals[0]?).map (·.type) = some 23 := by kernel_rfl

/-- The list of what is laid. -/
def laidL : List (String × DataW Unit) := [("cuecard/pty.other", Rows.laid_cuecard_pty_other)]

/-- The door's own heap meets the condition. -/
theorem door_met (os : Os) (args : Array Value) : laidMetH Tryd.prog laidL ((World.doorLaid Tryd.prog 14 os).forCall (fun _ _ => 0) ⟨#[], args, []⟩).memory :=
  laidMetH_of_parts3 (fuel := 8) (laidMet_of_run' 8 (by kernel_rfl) (by kernel_rfl)) (by kernel_rfl) (by kernel_rfl)

set_option maxRecDepth 100000 in
/-- What the condition gives the walks. -/
theorem of_laid {W : World} (h : laidMetH Tryd.prog laidL W) : Oth W := by
  rw [MakeChecks.laidMetH_plain _ _ _ (by kernel_rfl)] at h
  obtain ⟨ps, ⟨g0, t0, cs0, f0, p0, q0, hg0, ht0, hv0, hd0, _, _⟩, _, _⟩ := h
  obtain rfl := Option.some.inj (gOther.symm.trans hg0)
  obtain rfl := Option.some.inj (tOther.symm.trans ht0)
  obtain ⟨xs, m1, rfl, hx1, hlen, hn3, hel⟩ := DataW.trod_array Tryd.underlying23 hd0
  have c3 : Tryd.prog.cellsOf 3 = 1 := by kernel_rfl
  simp only [Prod.mk.injEq, Rows.laid_cuecard_pty_other, DataW.agg.injEq] at hx1
  have h0 := hel 0 (by decide)
  have h1 := hel 1 (by decide)
  match xs, hn3, hx1, h0, h1 with
  | [x0, x1], _, hx1, h0, h1 =>
    simp only [List.map_cons, List.map_nil, List.cons.injEq] at hx1
    obtain ⟨k0, e0, d0, _⟩ := DataW.trod_int Tryd.underlying3 (show DataW.trod _ Tryd.prog W 0 _ false m1 3 _ = some x0 from h0)
    obtain ⟨k1, e1, d1, _⟩ := DataW.trod_int Tryd.underlying3 (show DataW.trod _ Tryd.prog W 0 _ false m1 3 _ = some x1 from h1)
    have hk0 : k0 = 1 := by rw [d0] at hx1; simpa using hx1.1.1.symm
    have hk1 : k1 = 0 := by rw [d1] at hx1; simpa using hx1.1.2.1.symm
    subst hk0
    subst hk1
    have a0 := World.var?_cell hg0 hv0 0
    have a1 := World.var?_cell hg0 hv0 1
    obtain ⟨l0⟩ := cs0
    rw [c3] at e0 e1
    match l0, e0, e1 with
    | c0 :: c1 :: _, e0, e1 =>
      simp at e0 e1
      subst e0
      subst e1
      exact ⟨by simpa using a0, by simpa using a1⟩
    | [c0], e0, e1 => simp at e1
    | [], e0, e1 => simp at e0

end Go.Proofs.YthpdphbppapkhaaDoor
