/-
  The statements' world behind some of the acts, and the walk of the reference's Check over notes that are fine. Condition: at most 150 acts of at most 100 bytes each.
-/
import Derived.Test.YthpdphbppapkhaaDoorLaw7
namespace Go.Proofs.YthpdphbppapkhaaDoor
open Go.RowKit qb

theorem Slc.of_bytes {w0 w : World} {a : Option Addr} {n cap : Nat} {zs : List Int} (h : IsBytes w0 a n cap zs) (hb : Below w0.heap.size w0 w) : ∃ Q, Slc w Q (.slice a n cap) zs ∧ ∀ k, k ∈ Q → k < w0.heap.size := by
  obtain ⟨h1, h2, h3, h4⟩ := h
  rcases a with _ | ⟨b, off, x⟩
  · exact ⟨[], ⟨none, n, cap, rfl, h1, h2, h3, fun i hi => by obtain ⟨b, off, e, _⟩ := h4 i hi; cases e⟩, fun k hk => (by cases hk)⟩
  · rcases Nat.eq_zero_or_pos n with rfl | hn
    · exact ⟨[], ⟨_, 0, cap, rfl, h1, h2, h3, fun i hi => absurd hi (by omega)⟩, fun k hk => (by cases hk)⟩
    · obtain ⟨b', off', e, hlt, _⟩ := h4 0 hn
      obtain ⟨rfl, rfl, rfl⟩ : b = b' ∧ off = off' ∧ x = none := by cases e; exact ⟨rfl, rfl, rfl⟩
      refine ⟨[b], ⟨_, n, cap, rfl, h1, h2, h3, fun i hi => ?_⟩, fun k hk => by obtain rfl := List.mem_singleton.1 hk; exact hlt⟩
      obtain ⟨b', off', e, _, hc, _⟩ := h4 i hi
      obtain ⟨rfl, rfl⟩ : b = b' ∧ off = off' := by cases e; exact ⟨rfl, rfl⟩
      exact ⟨b, off, rfl, List.mem_singleton.2 rfl, Nat.lt_of_lt_of_le hlt hb.size, (hb.cell (p := ⟨b, off + i, none⟩) hlt).trans hc⟩

/-- Behind i acts. -/
def Run (w wr : World) (Wd R : Nat) (ln : Bool → Nat) (N : Nat) (acts : List Act) (i : Nat) : Prop :=
  ∃ H, LW wr Wd R ln N (runS N ls0 (acts.take i)) H ∧ Below w.heap.size w wr ∧ (∀ k, k ∈ H → w.heap.size ≤ k) ∧ w.heap.size ≤ wr.heap.size

section
variable {w wr W1 : World} {Wd R : Nat} {ln : Bool → Nat} {N : Nat} {acts : List Act} {i : Nat}

theorem Run.on (h : Run w wr Wd R ln N acts i) (hb : Below wr.heap.size wr W1) : Run w W1 Wd R ln N acts i := by
  obtain ⟨H, h1, h2, h3, h4⟩ := h
  exact ⟨H, h1.below hb, h2.trans (hb.mono h4), h3, Nat.le_trans h4 hb.size⟩

theorem Run.bel (h : Run w wr Wd R ln N acts i) : Below w.heap.size w wr := by
  obtain ⟨H, h1, h2, h3, h4⟩ := h
  exact h2

theorem Run.lens (hlen : acts.length ≤ 150) (hl : ∀ a, a ∈ acts → a.l.length ≤ 100) (d : Bool) : ((runS N ls0 (acts.take i)).wr d).length ≤ 15000 ∧ ((runS N ls0 (acts.take i)).rd d).length ≤ 15000 := by
  have h1 := runS_wr N (acts.take i) (fun a ha => hl a (List.mem_of_mem_take ha)) d ls0
  have h2 := (runS_inv Inv7.new N (acts.take i)).toWays.rd_le d
  have h3 : (ls0.wr d).length = 0 := by cases d <;> rfl
  have h4 : (acts.take i).length ≤ 150 := by rw [List.length_take]; omega
  omega

theorem Run.act (h : Run w wr Wd R ln N acts i) (hlen : acts.length ≤ 150) (hl : ∀ a, a ∈ acts → a.l.length ≤ 100) {x : Act} (hx : acts[i]? = some x) {a : Option Addr} {n c : Nat} (hy : IsBytes w a n c x.l) :
    Calls Tryd.prog 31 #[.pointer (some ⟨Wd, 0, none⟩), .agg #[.int .i64 x.kind, .int .i64 x.p1, .int .i64 x.p2, .slice a n c]] wr fun e w' => e = .returned (.bool (doS N (runS N ls0 (acts.take i)) x).2) ∧ Run w w' Wd R ln N acts (i + 1) := by
  obtain ⟨H, h1, h2, h3, h4⟩ := h
  obtain ⟨Q, hq, hQ⟩ := Slc.of_bytes hy h2
  have hxl := hl x (List.mem_of_getElem? hx)
  have hn : n ≤ 100 := by have := hy.2.2.1; omega
  refine (lw_do h1 x a n c Q hq (fun k hk hm => by have := hQ k hk; have := h3 k hm; omega) hn (fun d => by have := (Run.lens (N := N) (i := i) hlen hl d).1; omega) (fun d => by have := (Run.lens (N := N) (i := i) hlen hl d).2; omega)).mono ?_
  rintro e w' ⟨rfl, H', g1, g2, g3⟩
  refine ⟨rfl, H', ?_, g2.below h2 h3 h4, fun k hk => ?_, Nat.le_trans h4 g2.size⟩
  · rw [List.take_add_one, hx]
    show LW w' Wd R ln N (runS N ls0 (acts.take i ++ [x])) H'
    rw [runS_app]
    exact g1
  · rcases g3 k hk with h | h
    · exact h3 k h
    · omega

theorem Run.start (h : ∃ H, LW wr Wd R ln N ls0 H ∧ Below w.heap.size w wr ∧ ∀ k, k ∈ H → w.heap.size ≤ k) : Run w wr Wd R ln N acts 0 := by
  obtain ⟨H, h1, h2, h3⟩ := h
  exact ⟨H, h1, h2, h3, h2.size⟩

theorem Run.inv : Inv7 (runS N ls0 (acts.take i)) := runS_inv Inv7.new N _
end

theorem Told.below {w w' : World} {B : Nat} {v : Value} {evs : List Ev} (h : Told w B v evs) (hb : Below w.heap.size w w') : Told w' B v evs := by
  obtain ⟨evl, Q, h1, h2, h3, h4⟩ := h
  exact ⟨evl, Q, row_keeps h1 (Keeps.of_below hb []) (fun _ _ h => by cases h), h2, fun x hx => (h3 x hx).below hb, fun k hk => ⟨(h4 k hk).1, (h4 k hk).2.1, (h4 k hk).2.2.imp fun cs hc => (hb.block k (Array.getElem?_eq_some_iff.1 hc).1).trans hc⟩⟩

theorem total_take (evs : List Ev) (i : Nat) : total (evs.take i) ≤ total evs := by
  induction evs generalizing i with
  | nil => simp
  | cons e l ih =>
    cases i with
    | zero => simp [total]
    | succ i =>
      have := ih i
      simp [total] at *
      omega

set_option maxRecDepth 100000 in
set_option maxHeartbeats 2000000 in
theorem check_any {w : World} {B : Nat} {v : Value} {evs : List Ev} (h : Told w B v evs) (hf : ∀ e, e ∈ evs → e.fine) (hs : total evs ≤ 262144) (hl : evs.length ≤ 4096) :
    Calls Tryd.prog 33 #[v] w fun e w' => e = .returned (.int .i64 0) ∧ w = w' := by
  obtain ⟨sp, sc, Q, rfl, hle, hcm, hQ, hget⟩ := h.get
  obtain ⟨n, hn⟩ : ∃ n, evs.length = n := ⟨_, rfl⟩
  rw [hn] at hle hl ⊢
  unfold maxLen at hcm
  have HG : Hid _ := hget
  have HF : Hid _ := hf
  have HS := Lib.hid hs
  have HN := Lib.hid hn
  clear h hget hf hs hn hQ
  go_enter Tryd.func33, Tryd.ntmps33
  go_wp2_with fail
  go_loopg [3, 4] n (fun g v3 v4 wr => ∃ i : Nat, ∃ t : Nat, i + g = n ∧ v4 = .int .i64 i ∧ v3 = .int .i64 t ∧ Hid (total (evs.take i) = t) ∧ wr = w)
  case atStart => exact ⟨0, 0, by omega, rfl, rfl, rfl, rfl⟩
  case round =>
    obtain ⟨i, t, hi, rfl, rfl, ht, rfl⟩ := hrel
    have htl : t ≤ 262144 := by rw [← ht.out]; exact Nat.le_trans (total_take _ _) HS.out
    by_cases hlt : i < n
    · obtain ⟨e, he⟩ : ∃ e, evs[i]? = some e := ⟨evs[i]'(by rw [HN.out]; exact hlt), by rw [List.getElem?_eq_getElem]⟩
      obtain ⟨g, x, rfl, hg1, hg2, hg3, g0, g1, g2, hsl, _⟩ := HG.out i e he
      obtain ⟨f1, f2, f3⟩ := HF.out e (List.mem_of_getElem? he)
      obtain ⟨a, c, rfl, _, _⟩ := hsl.form
      have ht1 : total (evs.take (i + 1)) = t + e.data.length := by
        rw [List.take_add_one, he]
        show total (evs.take i ++ [e]) = _
        rw [total_app, ht.out]
      have hle1 : t + e.data.length ≤ 262144 := by rw [← ht1]; exact Nat.le_trans (total_take _ _) HS.out
      obtain ⟨dir, time, data⟩ := e
      obtain ⟨k, hk⟩ : ∃ k, data.length = k := ⟨_, rfl⟩
      dsimp only at *
      rw [hk] at f1 f2 ht1 hle1 g2
      have HT1 := Lib.hid ht1
      clear he hsl ht ht1
      rcases f3 with rfl | rfl
      all_goals
        go_wp2_with fail
        go_roundg (n - (i + 1))
        case measure => omega
        case rel => exact ⟨i + 1, t + k, by omega, by go_num, by go_num, HT1, rfl⟩
    · go_wp2_with fail
      go_ret
      exact ⟨rfl, rfl⟩

end Go.Proofs.YthpdphbppapkhaaDoor
