/-
  How the arguments of the statements over quotes are opened. No condition.
-/
import Derived.Test.YthjaemocnlhkdaaQuote
import Derived.ProofKit
import Derived.ShutString
import Derived.ChangeOld
import Derived.OpenShut
import Derived.JoinedCond
namespace Go.Proofs.Ythjaemocnlhkdaa
open Go.RowKit Go.ChangeShapes Go.WideShapes Go.ChangeAt

theorem own : ownKnob Try.prog.godebug = none := by kernel_rfl
theorem laidOut : laidOutB Try.prog = true := by kernel_rfl

theorem byte_cast {z : Int} (h0 : 0 ≤ z) (h1 : z ≤ 255) : ((UInt8.ofNat z.toNat).toNat : Int) = z := by
  simp
  omega

theorem byte_of {a : Int} (h : (Lit.int .u8 a).wf = true) : ∃ c : UInt8, a = (c.toNat : Int) := by
  have hb := bounds_u8 h
  refine ⟨UInt8.ofNat a.toNat, ?_⟩
  simp
  omega

theorem add_spot {w : World} {x : Addr} {v : Value} (h : w.cell? (x.add 0) = some v) : x = ⟨x.block, x.off, none⟩ := by
  obtain ⟨b, off, spot⟩ := x
  have : spot = none := by simpa [Addr.add] using World.cell?_spot h
  rw [this]

theorem add_none (b off j : Nat) : (⟨b, off, none⟩ : Addr).add j = ⟨b, off + j, none⟩ := by unfold Addr.add; split <;> simp_all

section
variable {H : Type} {enc : TypeId × Value → H} {W : World}

theorem one_le (d : DataW H) : 1 ≤ Rows.uptoBulk d := by
  cases d with
  | lit l => cases l <;> simp [Rows.uptoBulk]
  | _ => simp [Rows.uptoBulk]

theorem length_le (l : List (DataW H)) : l.length ≤ Rows.uptoBulkAll l := by
  induction l with
  | nil => simp [Rows.uptoBulkAll]
  | cons x r ih => have := one_le x; simp only [Rows.uptoBulkAll, List.length_cons]; omega

/-- Bytes that came in; and that they are no more than their bulk. -/
theorem open_bytes {a : Option Addr} {len cap : Nat} {d : DataW H} {p : List MemPlace} (h : DataW.Trod enc Try.prog W 0 (fun _ => true) true 22 (.slice a len cap) d p) : ∃ l, IsBytes W a len cap l ∧ len ≤ Rows.uptoBulk d := by
  obtain ⟨fuel, hf⟩ := h
  rcases open_ints Try.underlying22 Try.underlying5 (by kernel_rfl) hf with ⟨hcs, _⟩ | ⟨x, l, c, zs, hcs, _, hl, hm, hz, hx, hcell, hwz⟩
  · simp [Value.cells] at hcs
    obtain ⟨rfl, rfl, rfl⟩ := hcs
    exact ⟨[], ⟨Nat.le_refl _, by simp [maxLen], rfl, fun j hj => by omega⟩, Nat.zero_le _⟩
  · simp [Value.cells] at hcs
    obtain ⟨rfl, rfl, rfl⟩ := hcs
    have hzc : zs.length = cap := by simpa using hz
    have hd : d = .slice (lits .u8 (zs.take len)) (lits .u8 (zs.drop len)) := by
      have := congrArg Prod.fst hx
      exact this
    refine ⟨(zs.take len).map fun z => UInt8.ofNat z.toNat, ⟨hl, hm, by simp; omega, fun j hj => ?_⟩, ?_⟩
    · have hc := hcell j (by omega)
      have e := add_spot (hcell 0 (by omega))
      obtain ⟨b, off, spot⟩ := x
      obtain rfl : spot = none := by simpa using e
      rw [add_none] at hc
      have hzm : zs.getD j 0 ∈ zs := by
        rw [List.getD_eq_getElem?_getD, List.getElem?_eq_getElem (by omega)]
        exact List.getElem_mem _
      have hb := bounds_u8 (hwz _ hzm)
      have hg : ((((zs.take len).map fun z => UInt8.ofNat z.toNat).getD j 0).toNat : Int) = zs.getD j 0 := by
        have e : ((zs.take len).map fun z => UInt8.ofNat z.toNat).getD j 0 = UInt8.ofNat (zs.getD j 0).toNat := by
          simp [List.getD_eq_getElem?_getD, hj, show j < zs.length by omega]
        rw [e]
        exact byte_cast hb.1 hb.2
      rw [hg]
      exact ⟨b, off, rfl, World.block_lt_of_cell? W _ hc, hc⟩
    · rw [hd]
      have h1 := length_le (H := H) (lits .u8 (zs.take len))
      have h2 : (lits (H := H) .u8 (zs.take len)).length = len := by simp [lits]; omega
      simp only [Rows.uptoBulk]
      omega
end

end Go.Proofs.Ythjaemocnlhkdaa
