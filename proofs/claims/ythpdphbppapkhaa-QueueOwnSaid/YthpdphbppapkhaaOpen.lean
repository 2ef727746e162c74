/-
  How the arguments of the queue's statements are opened: a slice of acts, a slice of numbers, as they lie in memory when the call begins. No condition.
-/
import Derived.Test.YthpdphbppapkhaaActs
import Derived.ProofKit
import Derived.ShutString
import Derived.ChangeOld
namespace Go.Proofs.Ythpdphbppapkhaa
open Go.RowKit Go.ChangeShapes Go.WideShapes Go.ChangeAt

theorem own : ownKnob Try.prog.godebug = none := by kernel_rfl
theorem laidOut : laidOutB Try.prog = true := by kernel_rfl

theorem add_spot {w : World} {x : Addr} {v : Value} (h : w.cell? (x.add 0) = some v) : x = ⟨x.block, x.off, none⟩ := by
  obtain ⟨b, off, spot⟩ := x
  have : spot = none := by simpa [Addr.add] using World.cell?_spot h
  rw [this]

theorem add_none (b off j : Nat) : (⟨b, off, none⟩ : Addr).add j = ⟨b, off + j, none⟩ := by unfold Addr.add; split <;> simp_all

section
variable {H : Type} {enc : TypeId × Value → H} {W : World}

theorem open_list {fuel : Nat} {a : Option Addr} {len cap : Nat} {x : DataW H × List MemPlace} (h : DataW.trod enc Try.prog W 0 (fun _ => true) true fuel 35 [.slice a len cap] = some x) : ∃ zs, IsList W a len cap zs := by
  rcases open_ints Try.underlying35 Try.underlying3 (by kernel_rfl) h with ⟨hcs, _⟩ | ⟨x, l, c, zs, hcs, _, hl, hm, hz, _, hcell, hwz⟩
  · simp at hcs
    obtain ⟨rfl, rfl, rfl⟩ := hcs
    exact ⟨[], Nat.le_refl _, by simp [maxLen], rfl, fun j hj => by omega⟩
  · simp at hcs
    obtain ⟨rfl, rfl, rfl⟩ := hcs
    have hzc : zs.length = cap := by simpa using hz
    refine ⟨zs.take len, hl, hm, by simp; omega, fun j hj => ?_⟩
    have hc := hcell j (by omega)
    have e := add_spot (hcell 0 (by omega))
    obtain ⟨b, off, spot⟩ := x
    obtain rfl : spot = none := by simpa using e
    rw [add_none] at hc
    have hg : (zs.take len).getD j 0 = zs.getD j 0 := by simp [List.getD_eq_getElem?_getD, hj]
    rw [hg]
    refine ⟨b, off, rfl, World.block_lt_of_cell? W _ hc, hc, i64_of (hwz _ ?_)⟩
    rw [List.getD_eq_getElem?_getD, List.getElem?_eq_getElem (by omega)]
    exact List.getElem_mem _

theorem open_act {fuel : Nat} {cs : List Value} {x : DataW H × List MemPlace} {b o : Nat} (h : DataW.trod enc Try.prog W 0 (fun _ => true) true fuel 37 cs = some x) (hc : ∀ j, j < 3 → W.cell? ⟨b, o + j, none⟩ = cs[j]?) : ∃ act, IsAct W b o act := by
  obtain ⟨y0, y1, y2, n, rfl, hl, h0, h1, h2⟩ := Go.Deep.trod_struct3 Try.underlying37 h
  have hl3 : cs.length = 3 := by rw [hl]; kernel_rfl
  match cs, hl3 with
  | [v0, v1, v2], _ =>
    have e0 : Try.prog.cellsOf 3 = 1 := by kernel_rfl
    have e2 : Try.prog.cellsOf 35 = 1 := by kernel_rfl
    obtain ⟨k, hk, _, wk⟩ := DataW.trod_int Try.underlying3 h0
    obtain ⟨m, hm, _, wm⟩ := DataW.trod_int Try.underlying3 h1
    simp [e0] at hk hm
    subst hk
    subst hm
    simp [e2] at h2
    have hsl : ∃ la ln lc, v2 = .slice la ln lc := by
      rcases Go.Deep.open_slice Try.underlying35 h2 with ⟨hcs, _⟩ | ⟨x, l, c, _, _, _, _, hcs, _⟩
      · simp at hcs; exact ⟨_, _, _, hcs⟩
      · simp at hcs; exact ⟨_, _, _, hcs⟩
    obtain ⟨la, ln, lc, rfl⟩ := hsl
    obtain ⟨zs, hzs⟩ := open_list h2
    exact ⟨⟨k, m, zs⟩, la, ln, lc, hc 0 (by omega), hc 1 (by omega), hc 2 (by omega), hzs, i64_of wk, i64_of wm⟩

theorem open_acts {a : Option Addr} {len cap : Nat} {d : DataW H} {p : List MemPlace} (h : DataW.Trod enc Try.prog W 0 (fun _ => true) true 22 (.slice a len cap) d p) : ∃ acts, IsActs W a len cap acts := by
  obtain ⟨fuel, hf⟩ := h
  rcases Go.Deep.open_slice Try.underlying22 hf with ⟨hcs, _⟩ | ⟨x, l, c, m, n, D, Pl, hcs, _, hl, hm, hmm, _, hel⟩
  · simp [Value.cells] at hcs
    obtain ⟨rfl, rfl, rfl⟩ := hcs
    exact ⟨[], Nat.le_refl _, by simp [maxLen], rfl, fun j hj => by omega⟩
  · simp [Value.cells] at hcs
    obtain ⟨rfl, rfl, rfl⟩ := hcs
    have hmc : m = cap := by simpa using hmm
    have e3 : Try.prog.cellsOf 37 = 3 := by kernel_rfl
    have hspot : 0 < len → x = ⟨x.block, x.off, none⟩ := by
      intro hpos
      obtain ⟨cs', h1, h2⟩ := hel 0 (by omega)
      rw [e3] at h1
      obtain ⟨_, hlen, hcell⟩ := World.cells?_some h1
      have h0 := hcell 0 (by omega)
      rw [Go.Deep.add_add, List.getElem?_eq_getElem (by omega)] at h0
      exact add_spot (by simpa using h0)
    have each : ∀ i, i < len → ∃ act, x = ⟨x.block, x.off, none⟩ ∧ x.block < W.heap.size ∧ IsAct W x.block (x.off + i * 3) act := by
      intro i hi
      obtain ⟨cs', h1, h2⟩ := hel i (by omega)
      rw [e3] at h1
      obtain ⟨_, hlen, hcell⟩ := World.cells?_some h1
      have hj : ∀ j, j < 3 → W.cell? (x.add (i * 3 + j)) = cs'[j]? := fun j hj => by rw [← Go.Deep.add_add]; exact hcell j hj
      have h0 := hj 0 (by omega)
      rw [List.getElem?_eq_getElem (by omega)] at h0
      have e := hspot (by omega)
      obtain ⟨b, off, spot⟩ := x
      obtain rfl : spot = none := by simpa using e
      rw [add_none] at h0
      obtain ⟨act, hact⟩ := open_act (b := b) (o := off + i * 3) h2 (fun j hj' => by rw [← hj j hj', add_none, Nat.add_assoc])
      exact ⟨act, rfl, (World.block_lt_of_cell? W _ h0 : b < _), hact⟩
    obtain ⟨f, hf'⟩ := Go.Deep.choose_lt (α := Act) (n := len) (p := fun i act => x = ⟨x.block, x.off, none⟩ ∧ x.block < W.heap.size ∧ IsAct W x.block (x.off + i * 3) act) each
    refine ⟨(List.range len).map f, hl, hm, by simp, fun i hi => ?_⟩
    obtain ⟨h1, h2, h3⟩ := hf' i hi
    exact ⟨x.block, x.off, f i, by rw [← h1], h2, by simp [hi], h3⟩
end

end Go.Proofs.Ythpdphbppapkhaa
