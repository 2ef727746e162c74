/-
  How the arguments of the statements over lines are opened: bytes, a pair of numbers, acts. No condition.
-/
import Derived.Test.YthpdphbppapkhaaDoorOpen
import Derived.Test.YthpdphbppapkhaaDoorActs
namespace Go.Proofs.YthpdphbppapkhaaDoor
open Go.RowKit Go.ChangeShapes Go.WideShapes Go.ChangeAt Go.WideElems

theorem add_spot {w : World} {x : Addr} {v : Value} (h : w.cell? (x.add 0) = some v) : x = ⟨x.block, x.off, none⟩ := by
  obtain ⟨b, off, spot⟩ := x
  have : spot = none := by simpa [Addr.add] using World.cell?_spot h
  rw [this]

theorem u8_of {a : Int} (h : (Lit.int .u8 a).wf = true) : U8 a := bounds_u8 h

section
variable {H : Type} {enc : TypeId × Value → H} {W : World}

theorem open_list {fuel : Nat} {a : Option Addr} {len cap : Nat} {x : DataW H × List MemPlace} (h : DataW.trod enc Tryd.prog W 0 (fun _ => true) true fuel 22 [.slice a len cap] = some x) : ∃ zs, IsBytes W a len cap zs := by
  rcases open_ints Tryd.underlying22 Tryd.underlying5 (by kernel_rfl) h with ⟨hcs, _⟩ | ⟨x, l, c, zs, hcs, _, hl, hm, hz, _, hcell, hwz⟩
  · simp at hcs
    obtain ⟨rfl, rfl, rfl⟩ := hcs
    exact ⟨[], Nat.le_refl _, by simp [maxLen], rfl, fun j hj => by omega⟩
  · simp at hcs
    obtain ⟨rfl, rfl, rfl⟩ := hcs
    have hzc : zs.length = cap := by simpa using hz
    refine ⟨zs.take len, hl, hm, by simp; omega, fun j hj => ?_⟩
    have hc := hcell j (by omega)
    have e := add_spot (hcell 0 (by omega))
    obtain ⟨b, off, spot⟩ := x
    obtain rfl : spot = none := by simpa using e
    rw [add_none] at hc
    have hg : (zs.take len).getD j 0 = zs.getD j 0 := by simp [List.getD_eq_getElem?_getD, hj]
    rw [hg]
    refine ⟨b, off, rfl, World.block_lt_of_cell? W _ hc, hc, u8_of (hwz _ ?_)⟩
    rw [List.getD_eq_getElem?_getD, List.getElem?_eq_getElem (by omega)]
    exact List.getElem_mem _

theorem open_bytes {a : Option Addr} {len cap : Nat} {d : DataW H} {p : List MemPlace} (h : DataW.Trod enc Tryd.prog W 0 (fun _ => true) true 22 (.slice a len cap) d p) : ∃ zs, IsBytes W a len cap zs := by
  obtain ⟨fuel, hf⟩ := h
  exact open_list hf

set_option maxRecDepth 100000 in
theorem open_pair {v : Value} {d : DataW H} {p : List MemPlace} (h : DataW.Trod enc Tryd.prog W 0 (fun _ => true) true 23 v d p) : ∃ a b, v = .agg #[.int .i64 a, .int .i64 b] ∧ I64 a ∧ I64 b := by
  obtain ⟨fuel, hf⟩ := h
  obtain ⟨xs, m, rfl, hx, hl, hn, hel⟩ := DataW.trod_array Tryd.underlying23 hf
  have c3 : Tryd.prog.cellsOf 3 = 1 := by kernel_rfl
  have c23 : Tryd.prog.cellsOf 23 = 2 := by kernel_rfl
  rw [c23] at hl
  have hv : ∃ c0 c1, v = .agg #[c0, c1] := by
    cases v
    case agg cs =>
      obtain ⟨l⟩ := cs
      match l, hl with
      | [c0, c1], _ => exact ⟨c0, c1, rfl⟩
    all_goals simp [Value.cells] at hl
  obtain ⟨c0, c1, rfl⟩ := hv
  have h0 := hel 0 (by decide)
  have h1 := hel 1 (by decide)
  match xs, hn, h0, h1 with
  | [x0, x1], _, h0, h1 =>
    obtain ⟨k0, e0, _, w0⟩ := DataW.trod_int Tryd.underlying3 (show DataW.trod enc Tryd.prog W 0 _ true m 3 _ = some x0 from h0)
    obtain ⟨k1, e1, _, w1⟩ := DataW.trod_int Tryd.underlying3 (show DataW.trod enc Tryd.prog W 0 _ true m 3 _ = some x1 from h1)
    rw [c3] at e0 e1
    simp [Value.cells] at e0 e1
    subst e0
    subst e1
    exact ⟨k0, k1, rfl, i64_of w0, i64_of w1⟩

theorem trod_struct4 {t : TypeId} {f0 f1 f2 f3 : Field} {fuel : Nat} {cs : List Value} {x : DataW H × List MemPlace} (ht : Tryd.prog.underlying t = some (.struct #[f0, f1, f2, f3])) (h : DataW.trod enc Tryd.prog W 0 (fun _ => true) true fuel t cs = some x) :
    ∃ y0 y1 y2 y3 n, cs.length = Tryd.prog.cellsOf t ∧ DataW.trod enc Tryd.prog W 0 (fun _ => true) true n f0.type ((cs.drop f0.offset).take (Tryd.prog.cellsOf f0.type)) = some y0 ∧
      DataW.trod enc Tryd.prog W 0 (fun _ => true) true n f1.type ((cs.drop f1.offset).take (Tryd.prog.cellsOf f1.type)) = some y1 ∧ DataW.trod enc Tryd.prog W 0 (fun _ => true) true n f2.type ((cs.drop f2.offset).take (Tryd.prog.cellsOf f2.type)) = some y2 ∧
      DataW.trod enc Tryd.prog W 0 (fun _ => true) true n f3.type ((cs.drop f3.offset).take (Tryd.prog.cellsOf f3.type)) = some y3 := by
  obtain ⟨xs, n, _, rfl, hl, hlen, hf⟩ := DataW.trod_struct ht h
  match xs, hlen with
  | [y0, y1, y2, y3], _ => exact ⟨y0, y1, y2, y3, n, hl, by simpa using hf 0 f0 rfl, by simpa using hf 1 f1 rfl, by simpa using hf 2 f2 rfl, by simpa using hf 3 f3 rfl⟩

theorem act_of {n : Nat} {b o : Nat} {v0 v1 v2 v3 : Value} {t2 : TypeId} (ht2 : Tryd.prog.underlying t2 = some (.int .i64)) {y0 y1 y2 y3 : DataW H × List MemPlace} (h0 : DataW.trod enc Tryd.prog W 0 (fun _ => true) true n 3 [v0] = some y0)
    (h1 : DataW.trod enc Tryd.prog W 0 (fun _ => true) true n 3 [v1] = some y1) (h2 : DataW.trod enc Tryd.prog W 0 (fun _ => true) true n t2 [v2] = some y2) (h3 : DataW.trod enc Tryd.prog W 0 (fun _ => true) true n 22 [v3] = some y3)
    (hc : ∀ j, j < 4 → W.cell? ⟨b, o + j, none⟩ = [v0, v1, v2, v3][j]?) : ∃ act, IsAct W b o act := by
  obtain ⟨k, hk, _, wk⟩ := DataW.trod_int Tryd.underlying3 h0
  obtain ⟨m, hm, _, wm⟩ := DataW.trod_int Tryd.underlying3 h1
  obtain ⟨l, hl, _, wl⟩ := DataW.trod_int ht2 h2
  simp at hk hm hl
  subst hk
  subst hm
  subst hl
  have hsl : ∃ la ln lc, v3 = .slice la ln lc := by
    rcases Go.Deep.open_slice Tryd.underlying22 h3 with ⟨hcs, _⟩ | ⟨x, l, c, _, _, _, _, hcs, _⟩
    · simp at hcs; exact ⟨_, _, _, hcs⟩
    · simp at hcs; exact ⟨_, _, _, hcs⟩
  obtain ⟨la, ln, lc, rfl⟩ := hsl
  obtain ⟨zs, hzs⟩ := open_list h3
  exact ⟨⟨k, m, l, zs⟩, la, ln, lc, hc 0 (by omega), hc 1 (by omega), hc 2 (by omega), hc 3 (by omega), hzs, i64_of wk, i64_of wm, i64_of wl⟩

set_option maxRecDepth 100000 in
theorem open_act {fuel : Nat} {cs : List Value} {x : DataW H × List MemPlace} {b o : Nat} (h : DataW.trod enc Tryd.prog W 0 (fun _ => true) true fuel 38 cs = some x) (hc : ∀ j, j < 4 → W.cell? ⟨b, o + j, none⟩ = cs[j]?) : ∃ act, IsAct W b o act := by
  obtain ⟨y0, y1, y2, y3, n, hl, h0, h1, h2, h3⟩ := trod_struct4 Tryd.underlying38 h
  have hl4 : cs.length = 4 := by rw [hl]; kernel_rfl
  match cs, hl4 with
  | [v0, v1, v2, v3], _ =>
    have e0 : Tryd.prog.cellsOf 3 = 1 := by kernel_rfl
    have e2 : Tryd.prog.cellsOf 22 = 1 := by kernel_rfl
    simp [e0, e2] at h0 h1 h2 h3
    exact act_of Tryd.underlying3 h0 h1 h2 h3 hc

set_option maxRecDepth 100000 in
theorem open_pick {fuel : Nat} {cs : List Value} {x : DataW H × List MemPlace} {b o : Nat} (h : DataW.trod enc Tryd.prog W 0 (fun _ => true) true fuel 59 cs = some x) (hc : ∀ j, j < 4 → W.cell? ⟨b, o + j, none⟩ = cs[j]?) : ∃ act, IsAct W b o act := by
  obtain ⟨y0, y1, y2, y3, n, hl, h0, h1, h2, h3⟩ := trod_struct4 Tryd.underlying59 h
  have hl4 : cs.length = 4 := by rw [hl]; kernel_rfl
  match cs, hl4 with
  | [v0, v1, v2, v3], _ =>
    have e0 : Tryd.prog.cellsOf 3 = 1 := by kernel_rfl
    have e1 : Tryd.prog.cellsOf 2 = 1 := by kernel_rfl
    have e2 : Tryd.prog.cellsOf 22 = 1 := by kernel_rfl
    simp [e0, e1, e2] at h0 h1 h2 h3
    exact act_of Tryd.underlying2 h0 h1 h2 h3 hc

theorem open_of {t e : TypeId} (ht : Tryd.prog.underlying t = some (.slice e)) (h4 : Tryd.prog.cellsOf e = 4)
    (one : ∀ {fuel : Nat} {cs : List Value} {x : DataW H × List MemPlace} {b o : Nat}, DataW.trod enc Tryd.prog W 0 (fun _ => true) true fuel e cs = some x → (∀ j, j < 4 → W.cell? ⟨b, o + j, none⟩ = cs[j]?) → ∃ act, IsAct W b o act)
    {a : Option Addr} {len cap : Nat} {d : DataW H} {p : List MemPlace} (h : DataW.Trod enc Tryd.prog W 0 (fun _ => true) true t (.slice a len cap) d p) : ∃ acts, IsActs W a len cap acts := by
  obtain ⟨fuel, hf⟩ := h
  rcases Go.Deep.open_slice ht hf with ⟨hcs, _⟩ | ⟨x, l, c, m, n, D, Pl, hcs, _, hl, hm, hmm, _, hel⟩
  · simp [Value.cells] at hcs
    obtain ⟨rfl, rfl, rfl⟩ := hcs
    exact ⟨[], Nat.le_refl _, by simp [maxLen], rfl, fun j hj => by omega⟩
  · simp [Value.cells] at hcs
    obtain ⟨rfl, rfl, rfl⟩ := hcs
    have hmc : m = cap := by simpa using hmm
    have hspot : 0 < len → x = ⟨x.block, x.off, none⟩ := by
      intro hpos
      obtain ⟨cs', h1, h2⟩ := hel 0 (by omega)
      rw [h4] at h1
      obtain ⟨_, hlen, hcell⟩ := World.cells?_some h1
      have h0 := hcell 0 (by omega)
      rw [Go.Deep.add_add, List.getElem?_eq_getElem (by omega)] at h0
      exact add_spot (by simpa using h0)
    have each : ∀ i, i < len → ∃ act, x = ⟨x.block, x.off, none⟩ ∧ x.block < W.heap.size ∧ IsAct W x.block (x.off + i * 4) act := by
      intro i hi
      obtain ⟨cs', h1, h2⟩ := hel i (by omega)
      rw [h4] at h1
      obtain ⟨_, hlen, hcell⟩ := World.cells?_some h1
      have hj : ∀ j, j < 4 → W.cell? (x.add (i * 4 + j)) = cs'[j]? := fun j hj => by rw [← Go.Deep.add_add]; exact hcell j hj
      have h0 := hj 0 (by omega)
      rw [List.getElem?_eq_getElem (by omega)] at h0
      have e := hspot (by omega)
      obtain ⟨b, off, spot⟩ := x
      obtain rfl : spot = none := by simpa using e
      rw [add_none] at h0
      obtain ⟨act, hact⟩ := one (b := b) (o := off + i * 4) h2 (fun j hj' => by rw [← hj j hj', add_none, Nat.add_assoc])
      exact ⟨act, rfl, (World.block_lt_of_cell? W _ h0 : b < _), hact⟩
    obtain ⟨f, hf'⟩ := Go.Deep.choose_lt (α := Act) (n := len) (p := fun i act => x = ⟨x.block, x.off, none⟩ ∧ x.block < W.heap.size ∧ IsAct W x.block (x.off + i * 4) act) each
    refine ⟨(List.range len).map f, hl, hm, by simp, fun i hi => ?_⟩
    obtain ⟨h1, h2, h3⟩ := hf' i hi
    exact ⟨x.block, x.off, f i, by rw [← h1], h2, by simp [hi], h3⟩

theorem open_acts {a : Option Addr} {len cap : Nat} {d : DataW H} {p : List MemPlace} (h : DataW.Trod enc Tryd.prog W 0 (fun _ => true) true 34 (.slice a len cap) d p) : ∃ acts, IsActs W a len cap acts :=
  open_of Tryd.underlying34 (by kernel_rfl) (fun h hc => open_act h hc) h

theorem open_picks {a : Option Addr} {len cap : Nat} {d : DataW H} {p : List MemPlace} (h : DataW.Trod enc Tryd.prog W 0 (fun _ => true) true 54 (.slice a len cap) d p) : ∃ acts, IsActs W a len cap acts :=
  open_of Tryd.underlying54 (by kernel_rfl) (fun h hc => open_pick h hc) h
end

end Go.Proofs.YthpdphbppapkhaaDoor
