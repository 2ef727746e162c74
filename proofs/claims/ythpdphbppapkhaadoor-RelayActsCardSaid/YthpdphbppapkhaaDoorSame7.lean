/-
  The walk of the reference's Same over the same notes. Condition: at most 4096 notes.
-/
import Derived.Test.YthpdphbppapkhaaDoorBytes7
import Derived.BigQuiet
namespace Go.Proofs.YthpdphbppapkhaaDoor
open Go.RowKit qb

/-- A slice that reads as notes. -/
def Shown (w : World) (v : Value) (evs : List Ev) : Prop :=
  ∃ sp sc, v = .slice sp evs.length sc ∧ evs.length ≤ sc ∧ sc ≤ maxLen ∧ ∀ i e, evs[i]? = some e → ∃ g x Q, sp = some ⟨g, 0, none⟩ ∧ g < w.heap.size ∧
    w.cell? ⟨g, i * 3, none⟩ = some (.int .i64 e.dir) ∧ w.cell? ⟨g, i * 3 + 1, none⟩ = some (.int .i64 e.time) ∧ w.cell? ⟨g, i * 3 + 2, none⟩ = some x ∧ Slc w Q x e.data

theorem Told.shown {w : World} {B : Nat} {v : Value} {evs : List Ev} (h : Told w B v evs) : Shown w v evs := by
  obtain ⟨sp, sc, Q, e, h1, h2, _, hg⟩ := h.get
  refine ⟨sp, sc, e, h1, h2, fun i e he => ?_⟩
  obtain ⟨g, x, e1, _, e2, _, e3, e4, e5, e6, _⟩ := hg i e he
  exact ⟨g, x, Q, e1, e2, e3, e4, e5, e6⟩

theorem Shown.below {w w' : World} {v : Value} {evs : List Ev} (h : Shown w v evs) (hb : Below w.heap.size w w') : Shown w' v evs := by
  obtain ⟨sp, sc, e, h1, h2, hg⟩ := h
  refine ⟨sp, sc, e, h1, h2, fun i e he => ?_⟩
  obtain ⟨g, x, Q, e1, e2, e3, e4, e5, e6⟩ := hg i e he
  exact ⟨g, x, Q, e1, Nat.lt_of_lt_of_le e2 hb.size, (hb.cell (p := ⟨g, i * 3, none⟩) e2).trans e3, (hb.cell (p := ⟨g, i * 3 + 1, none⟩) e2).trans e4, (hb.cell (p := ⟨g, i * 3 + 2, none⟩) e2).trans e5, e6.below hb⟩

set_option maxRecDepth 100000 in
set_option maxHeartbeats 4000000 in
theorem ref_same {w : World} {v v' : Value} {evs : List Ev} (h : Shown w v evs) (h' : Shown w v' evs) (hl : evs.length ≤ 4096) :
    Calls Tryd.prog 34 #[v, v'] w fun e w' => e = .returned (.bool true) ∧ ∃ m, w' = w.drewN m := by
  obtain ⟨sp, sc, rfl, hle, hcm, hget⟩ := h
  obtain ⟨sp', sc', rfl, hle', hcm', hget'⟩ := h'
  obtain ⟨n, hn⟩ : ∃ n, evs.length = n := ⟨_, rfl⟩
  rw [hn] at hle hle' hl ⊢
  unfold maxLen at hcm hcm'
  have HG : Hid _ := hget
  have HG' : Hid _ := hget'
  have HN := Lib.hid hn
  clear hget hget' hn
  go_enter Tryd.func34, Tryd.ntmps34
  go_wp2_with fail
  go_loopg [5] n (fun g v5 wr => ∃ i : Nat, i + g = n ∧ v5 = .int .i64 i ∧ ∃ m, wr = w.drewN m)
  case atStart => exact ⟨0, by omega, rfl, 0, rfl⟩
  case round =>
    obtain ⟨i, hi, rfl, m, rfl⟩ := hrel
    by_cases hlt : i < n
    · obtain ⟨e, he⟩ : ∃ e, evs[i]? = some e := ⟨evs[i]'(by rw [HN.out]; exact hlt), by rw [List.getElem?_eq_getElem]⟩
      obtain ⟨g, x, Q, rfl, hg2, c0, c1, c2, hsl⟩ := HG.out i e he
      obtain ⟨g', x', Q', rfl, hg2', c0', c1', c2', hsl'⟩ := HG'.out i e he
      obtain ⟨a, c, rfl, _, _⟩ := hsl.form
      obtain ⟨a', c', rfl, _, _⟩ := hsl'.form
      obtain ⟨dir, time, data⟩ := e
      obtain ⟨s, hs⟩ : ∃ s, strOfNums data = s := ⟨_, rfl⟩
      obtain ⟨k, hk⟩ : ∃ k, data.length = k := ⟨_, rfl⟩
      dsimp only at *
      have hcv : ∀ q, (convert 22 9 (.slice a k c)).run Tryd.prog (w.drewN q) = .ok (.string s) (w.drewN q) := by
        intro q
        rw [← hs, ← hk]
        exact (hsl.below (below_drewN (Below.refl _ _) q)).conv
      have hcv' : ∀ q, (convert 22 9 (.slice a' k c')).run Tryd.prog (w.drewN q) = .ok (.string s) (w.drewN q) := by
        intro q
        rw [← hs, ← hk]
        exact (hsl'.below (below_drewN (Below.refl _ _) q)).conv
      rw [hk] at c2 c2'
      obtain ⟨W1, hW1⟩ : ∃ W1, w.drewN m = W1 := ⟨_, rfl⟩
      have d0 : W1.cell? ⟨g, i * 3, none⟩ = some (.int .i64 dir) := by rw [← hW1]; exact c0
      have d1 : W1.cell? ⟨g, i * 3 + 1, none⟩ = some (.int .i64 time) := by rw [← hW1]; exact c1
      have d2 : W1.cell? ⟨g, i * 3 + 2, none⟩ = some (.slice a k c) := by rw [← hW1]; exact c2
      have d0' : W1.cell? ⟨g', i * 3, none⟩ = some (.int .i64 dir) := by rw [← hW1]; exact c0'
      have d1' : W1.cell? ⟨g', i * 3 + 1, none⟩ = some (.int .i64 time) := by rw [← hW1]; exact c1'
      have d2' : W1.cell? ⟨g', i * 3 + 2, none⟩ = some (.slice a' k c') := by rw [← hW1]; exact c2'
      have hv : ∀ q, (convert 22 9 (.slice a k c)).run Tryd.prog (W1.drewN q) = .ok (.string s) (W1.drewN q) := by intro q; rw [← hW1, World.drewN_drewN]; exact hcv _
      have hv' : ∀ q, (convert 22 9 (.slice a' k c')).run Tryd.prog (W1.drewN q) = .ok (.string s) (W1.drewN q) := by intro q; rw [← hW1, World.drewN_drewN]; exact hcv' _
      have HW1 := Lib.hid hW1
      clear hcv hcv' c0 c1 c2 c0' c1' c2' hsl hsl' he hs hk
      rw [hW1]
      clear hW1
      go_upto_region 6 with fail
      go_quiet (fail)
      go_wp2_with fail
      go_roundg (n - (i + 1))
      case measure => omega
      case rel => exact ⟨i + 1, by omega, by go_num, m + nq, by rw [← HW1.out, World.drewN_drewN]⟩
    · go_wp2_with fail
      go_ret
      exact ⟨rfl, m, rfl⟩

end Go.Proofs.YthpdphbppapkhaaDoor
