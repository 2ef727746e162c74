/-
  The statements' world and the reference's relay side by side. Condition: at most 150 acts of at most 100 bytes each.
-/
import Derived.Test.YthpdphbppapkhaaDoorRStep
namespace Go.Proofs.YthpdphbppapkhaaDoor
open Go.RowKit qb

def Pair (w wr : World) (Wd R : Nat) (ln : Bool → Nat) (r : Nat) (m : Bool → Nat) (N : Nat) (S : LS) (s : RS) (C : Nat) : Prop :=
  ∃ H G, LW wr Wd R ln N S H ∧ RRel wr r m N s G ∧ (∀ k, k ∈ H → k ∉ G) ∧ Below w.heap.size w wr ∧ (∀ k, k ∈ H → w.heap.size ≤ k) ∧ (∀ k, k ∈ G → w.heap.size ≤ k) ∧ w.heap.size ≤ wr.heap.size ∧ C ∉ H ∧ C ∉ G

section
variable {w wr W1 : World} {Wd R : Nat} {ln : Bool → Nat} {r : Nat} {m : Bool → Nat} {N : Nat} {S : LS} {s : RS} {C : Nat}

theorem Pair.bel (h : Pair w wr Wd R ln r m N S s C) : Below w.heap.size w wr := by
  obtain ⟨H, G, h1, h2, h3, h4, _⟩ := h
  exact h4

theorem Pair.on (h : Pair w wr Wd R ln r m N S s C) (hb : Below wr.heap.size wr W1) : Pair w W1 Wd R ln r m N S s wr.heap.size := by
  obtain ⟨H, G, h1, h2, h3, h4, h5, h6, h7, h8, h9⟩ := h
  exact ⟨H, G, h1.below hb, h2.below hb, h3, h4.trans (hb.mono h7), h5, h6, Nat.le_trans h7 hb.size, fun hm => by have := h1.lt _ hm; omega, fun hm => by have := h2.lt _ hm; omega⟩

theorem Pair.on' (h : Pair w wr Wd R ln r m N S s C) (hb : Below wr.heap.size wr W1) : Pair w W1 Wd R ln r m N S s C := by
  obtain ⟨H, G, h1, h2, h3, h4, h5, h6, h7, h8, h9⟩ := h
  exact ⟨H, G, h1.below hb, h2.below hb, h3, h4.trans (hb.mono h7), h5, h6, Nat.le_trans h7 hb.size, h8, h9⟩

theorem Pair.lw (h : Pair w wr Wd R ln r m N S s C) : ∃ H, LW wr Wd R ln N S H := by
  obtain ⟨H, G, h1, _⟩ := h
  exact ⟨H, h1⟩
theorem Pair.rr (h : Pair w wr Wd R ln r m N S s C) : ∃ G, RRel wr r m N s G := by
  obtain ⟨H, G, _, h1, _⟩ := h
  exact ⟨G, h1⟩

theorem Pair.did (h : Pair w wr Wd R ln r m N S s C) (hC : C < wr.heap.size) (x : Act) (hx : x.l.length ≤ 100) {a : Option Addr} {n c : Nat} (hy : IsBytes w a n c x.l) (hwr : ∀ d, (S.wr d).length ≤ 100000) (hrd : ∀ d, (S.rd d).length ≤ 100000) :
    Calls Tryd.prog 31 #[.pointer (some ⟨Wd, 0, none⟩), .agg #[.int .i64 x.kind, .int .i64 x.p1, .int .i64 x.p2, .slice a n c]] wr fun e w' => e = .returned (.bool (doS N S x).2) ∧ Pair w w' Wd R ln r m N (doS N S x).1 s C ∧ w'.heap[C]? = wr.heap[C]? ∧ C < w'.heap.size := by
  obtain ⟨H, G, h1, h2, h3, h4, h5, h6, h7, h8, h9⟩ := h
  obtain ⟨Q, hq, hQ⟩ := Slc.of_bytes hy h4
  refine (lw_do h1 x a n c Q hq (fun k hk hm => by have := hQ k hk; have := h5 k hm; omega) (by have := hy.2.2.1; omega) hwr hrd).mono ?_
  rintro e w' ⟨rfl, H', g1, g2, g3⟩
  refine ⟨rfl, ⟨H', G, g1, h2.keeps g2 (fun k hk hm => h3 k hm hk), fun k hk hm => ?_, g2.below h4 h5 h7, fun k hk => ?_, h6, Nat.le_trans h7 g2.size, fun hm => ?_, h9⟩, g2.block C hC h8, Nat.lt_of_lt_of_le hC g2.size⟩
  · rcases g3 k hk with h | h
    · exact h3 k h hm
    · have := h2.lt k hm; omega
  · rcases g3 k hk with h | h
    · exact h5 k h
    · omega
  · rcases g3 C hm with h | h
    · exact h8 h
    · omega

theorem pair_ref {H G : List Nat} (h1 : LW wr Wd R ln N S H) (h3 : ∀ k, k ∈ H → k ∉ G) (h4 : Below w.heap.size w wr) (h5 : ∀ k, k ∈ H → w.heap.size ≤ k) (h6 : ∀ k, k ∈ G → w.heap.size ≤ k) (h7 : w.heap.size ≤ wr.heap.size) (h8 : C ∉ H) (h9 : C ∉ G) (hC : C < wr.heap.size) (h0 : 0 < w.heap.size) {w' : World} {s' : RS} (hg : RGo wr w' r m N G s') :
    Pair w w' Wd R ln r m N S s' C ∧ w'.heap[C]? = wr.heap[C]? ∧ C < w'.heap.size := by
  obtain ⟨G', g1, g2, g3⟩ := hg
  refine ⟨⟨H, G', h1.keeps g2 h3 (fun hm => ?_), g1, fun k hk hm => ?_, g2.below h4 h6 h7, h5, fun k hk => ?_, Nat.le_trans h7 g2.size, h8, fun hm => ?_⟩, g2.block C hC h9, Nat.lt_of_lt_of_le hC g2.size⟩
  · have := h6 0 hm; omega
  · rcases g3 k hm with h | h
    · exact h3 k hk h
    · have := h1.lt k hk; omega
  · rcases g3 k hk with h | h
    · exact h6 k h
    · omega
  · rcases g3 C hm with h | h
    · exact h9 h
    · omega

theorem Pair.step (h : Pair w wr Wd R ln r m N S s C) (hC : C < wr.heap.size) (h0 : 0 < w.heap.size) (hn : Notes s) (hs : Small s) (kind n t : Int) :
    Calls Tryd.prog 41 #[.pointer (some ⟨r, 0, none⟩), .int .i64 kind, .int .i64 n, .int .i64 t] wr fun e w' => e = .returned (.bool (stepS N s kind n t).2) ∧ Pair w w' Wd R ln r m N S (stepS N s kind n t).1 C ∧ w'.heap[C]? = wr.heap[C]? ∧ C < w'.heap.size := by
  obtain ⟨H, G, h1, h2, h3, h4, h5, h6, h7, h8, h9⟩ := h
  refine (rr_step h2 hn hs kind n t).mono ?_
  rintro e w' ⟨rfl, hg⟩
  exact ⟨rfl, pair_ref h1 h3 h4 h5 h6 h7 h8 h9 hC h0 hg⟩

theorem Pair.rline (h : Pair w wr Wd R ln r m N S s C) (hC : C < wr.heap.size) (h0 : 0 < w.heap.size) (d : Bool) : ∃ F, RefP wr (m d) F N (s.l d) ∧
    ∀ w' F' l', RefP w' (m d) F' N l' → Keeps F wr w' → (∀ k, k ∈ F' → k ∈ F ∨ wr.heap.size ≤ k) → Pair w w' Wd R ln r m N S { s with l := upd s.l d l' } C ∧ w'.heap[C]? = wr.heap[C]? ∧ C < w'.heap.size := by
  obtain ⟨H, G, h1, h2, h3, h4, h5, h6, h7, h8, h9⟩ := h
  obtain ⟨F, hp, hF, hfin⟩ := h2.line d
  exact ⟨F, hp, fun w' F' l' g1 g2 g3 => pair_ref h1 h3 h4 h5 h6 h7 h8 h9 hC h0 (hfin w' F' l' g1 g2 g3)⟩

theorem Pair.rcells' (h : Pair w wr Wd R ln r m N S s C) : wr.cell? ⟨r, 0, none⟩ = some (.pointer (some ⟨m true, 0, none⟩)) ∧ wr.cell? ⟨r, 1, none⟩ = some (.pointer (some ⟨m false, 0, none⟩)) := by
  obtain ⟨G, ts, Fs, v, vE, vT, evl, Q, col, rfl, h, ht⟩ := h.rr
  exact ⟨h.cells 0, h.cells 1⟩

theorem Pair.rcells (h : Pair w wr Wd R ln r m N S s C) (hn : s.evs.length ≤ 4096) : wr.cell? ⟨r, 0, none⟩ = some (.pointer (some ⟨m true, 0, none⟩)) ∧ wr.cell? ⟨r, 1, none⟩ = some (.pointer (some ⟨m false, 0, none⟩)) ∧ wr.cell? ⟨r, 3, none⟩ = some (.bool (s.o false)) ∧
    (∃ a c, wr.cell? ⟨r, 5, none⟩ = some (.slice a (s.w false).length c)) ∧ (∃ a c, wr.cell? ⟨r, 6, none⟩ = some (.slice a (s.w true).length c)) ∧ ∃ vE, wr.cell? ⟨r, 2, none⟩ = some vE ∧ Shown wr vE s.evs := by
  obtain ⟨G, ts, Fs, v, vE, vT, evl, Q, col, rfl, h, ht⟩ := h.rr
  obtain ⟨a0, c0, e0, _⟩ := (h.hw false).form
  obtain ⟨a1, c1, e1, _⟩ := (h.hw true).form
  exact ⟨h.cells 0, h.cells 1, h.cells 3, ⟨a0, c0, by rw [← e0]; exact h.cells 5⟩, ⟨a1, c1, by rw [← e1]; exact h.cells 6⟩, vE, h.cells 2, h.shown hn⟩
end

/-- Behind the reference's part of an act. -/
def midS (N : Nat) (S : LS) (x : Act) : RS := if 4 ≤ x.kind ∧ x.kind ≤ 9 then (doS N S x).1.s else S.s

theorem midS_step (N : Nat) (S : LS) (x : Act) (h : x.kind < 4) : midS N S x = S.s ∧ (doS N S x).1.s = (stepS N S.s x.kind x.p1 x.p2).1 ∧ (doS N S x).2 = (stepS N S.s x.kind x.p1 x.p2).2 := by
  unfold midS doS
  rw [if_neg (by omega), if_neg (by omega), if_neg (by omega), if_neg (by omega), if_neg (by omega), if_neg (by omega), if_neg (by omega)]
  exact ⟨rfl, rfl, rfl⟩

theorem midS_other (N : Nat) (S : LS) (x : Act) (h : ¬ x.kind < 4) : midS N S x = (doS N S x).1.s ∧ (doS N S x).2 = false := by
  by_cases h9 : x.kind ≤ 9
  · unfold midS
    rw [if_pos (by omega)]
    refine ⟨rfl, ?_⟩
    unfold doS
    split
    · rfl
    split
    · rfl
    split
    · rfl
    split
    · rfl
    split
    · rfl
    split
    · rfl
    · omega
  · have e : stepS N S.s x.kind x.p1 x.p2 = (S.s, false) := by
      unfold stepS
      rw [if_neg (by omega), if_neg (by omega), if_neg (by omega), if_neg (by omega)]
    unfold midS doS
    rw [if_neg (by omega), if_neg (by omega), if_neg (by omega), if_neg (by omega), if_neg (by omega), if_neg (by omega), if_neg (by omega), e]
    exact ⟨rfl, rfl⟩

end Go.Proofs.YthpdphbppapkhaaDoor
