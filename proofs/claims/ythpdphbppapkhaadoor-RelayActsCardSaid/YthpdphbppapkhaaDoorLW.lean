/-
  The statements' own world in memory: a relay, and what was written and read at both ends; and the walk of its New. No condition.
-/
import Derived.Test.YthpdphbppapkhaaDoorRelStep
namespace Go.Proofs.YthpdphbppapkhaaDoor
open Go.RowKit qb

structure LS where
  s : RS
  wr : Bool → List Int
  rd : Bool → List Int

def lwCells (ln : Bool → Nat) (R : Nat) (S : LS) : Array Value :=
  #[.pointer (some ⟨ln true, 0, none⟩), .pointer (some ⟨ln false, 0, none⟩), .pointer (some ⟨R, 0, none⟩), .string (strOfNums (S.wr true)), .string (strOfNums (S.wr false)), .string (strOfNums (S.rd false)), .string (strOfNums (S.rd true))]

/-- Block Wd is such a world; H: all its blocks. -/
def LW (w : World) (Wd R : Nat) (ln : Bool → Nat) (N : Nat) (S : LS) (H : List Nat) : Prop :=
  ∃ H0, H = Wd :: H0 ∧ Rel w R ln N S.s H0 ∧ Wd ∉ H0 ∧ Wd ≠ 0 ∧ w.heap[Wd]? = some (.cells (lwCells ln R S) 66 (0, 0))

section
variable {w w' : World} {Wd R : Nat} {ln : Bool → Nat} {N : Nat} {S : LS} {H : List Nat}

theorem LW.lt (h : LW w Wd R ln N S H) : ∀ k, k ∈ H → k < w.heap.size := by
  obtain ⟨H0, rfl, hr, _, _, hw⟩ := h
  intro k hk
  rcases List.mem_cons.1 hk with rfl | hk
  · exact (Array.getElem?_eq_some_iff.1 hw).1
  · exact hr.lt k hk

theorem LW.zero (h : LW w Wd R ln N S H) : 0 ∉ H := by
  obtain ⟨H0, rfl, hr, _, hz, hw⟩ := h
  intro hm
  rcases List.mem_cons.1 hm with h | h
  · exact hz h.symm
  · exact hr.zero h

theorem LW.keeps {X : List Nat} (h : LW w Wd R ln N S H) (hk : Keeps X w w') (hd : ∀ k, k ∈ H → k ∉ X) (h0 : 0 ∉ X) : LW w' Wd R ln N S H := by
  have hl := h.lt Wd
  obtain ⟨H0, rfl, hr, hn, hz, hw⟩ := h
  exact ⟨H0, rfl, hr.keeps hk (fun k h => hd k (by simp [h])) h0, hn, hz, (hk.block Wd (hl (by simp)) (hd Wd (by simp))).trans hw⟩

theorem LW.below (h : LW w Wd R ln N S H) (hb : Below w.heap.size w w') : LW w' Wd R ln N S H :=
  h.keeps (Keeps.of_below hb []) (fun _ _ h => by cases h) (by simp)

theorem LW.cells (h : LW w Wd R ln N S H) (j : Nat) : w.cell? ⟨Wd, j, none⟩ = (lwCells ln R S)[j]? := by
  obtain ⟨H0, rfl, hr, hn, hz, hw⟩ := h
  exact cell_at hw j

theorem LW.frozen (h : LW w Wd R ln N S H) (j : Nat) : w.frozen? ⟨Wd, j, none⟩ = false := by
  obtain ⟨H0, rfl, hr, hn, hz, hw⟩ := h
  exact frozen_of_row _ _ _ _ _ hw

/-- A step of its relay, or a call on its lines. -/
theorem LW.rel (h : LW w Wd R ln N S H) : ∃ H0, Rel w R ln N S.s H0 ∧ (∀ k, k ∈ H0 → k ∈ H) ∧ Wd ∉ H0 ∧
    ∀ w' H0' s', Rel w' R ln N s' H0' → Keeps H0 w w' → (∀ k, k ∈ H0' → k ∈ H0 ∨ w.heap.size ≤ k) → ∃ H', LW w' Wd R ln N { S with s := s' } H' ∧ Keeps H w w' ∧ ∀ k, k ∈ H' → k ∈ H ∨ w.heap.size ≤ k := by
  have hl := h.lt Wd
  obtain ⟨H0, rfl, hr, hn, hz, hw⟩ := h
  refine ⟨H0, hr, fun k h => by simp [h], hn, fun w' H0' s' hr' hk hs => ⟨Wd :: H0', ⟨H0', rfl, hr', fun hm => ?_, hz, (hk.block Wd (hl (by simp)) hn).trans hw⟩, ⟨hk.os, hk.tape, hk.output, hk.size, fun k h1 h2 => hk.block k h1 (fun h3 => h2 (by simp [h3]))⟩, fun k hk => ?_⟩⟩
  · rcases hs Wd hm with h | h
    · exact hn h
    · have := hl (by simp); omega
  · rcases List.mem_cons.1 hk with rfl | hk
    · exact .inl (by simp)
    · rcases hs k hk with h | h
      · exact .inl (by simp [h])
      · exact .inr h

theorem LW.line (h : LW w Wd R ln N S H) (u : Bool) : ∃ F, IsP w (ln u) F N (S.s.l u) ∧ (∀ k, k ∈ F → k ∈ H) ∧ Wd ∉ F ∧
    ∀ w' F' l', IsP w' (ln u) F' N l' → Keeps F w w' → (∀ k, k ∈ F' → k ∈ F ∨ w.heap.size ≤ k) → ∃ H', LW w' Wd R ln N { S with s := { S.s with l := upd S.s.l u l' } } H' ∧ Keeps H w w' ∧ ∀ k, k ∈ H' → k ∈ H ∨ w.heap.size ≤ k := by
  obtain ⟨H0, hr, hsub, hWd, hfin⟩ := h.rel
  obtain ⟨F, hp, hF, hline⟩ := hr.line u
  refine ⟨F, hp, fun k h => hsub k (hF k h), fun hm => hWd (hF Wd hm), fun w' F' l' hp' hk hs => ?_⟩
  obtain ⟨H', h1, h2, h3⟩ := hline w' F' l' hp' hk hs
  exact hfin w' H' _ h1 h2 h3
theorem strOf_app (xs ys : List Int) : strOfNums xs ++ strOfNums ys = strOfNums (xs ++ ys) := by
  apply ByteArray.ext
  simp [strOfNums]

theorem LW.str (h : LW w Wd R ln N S H) (j : Nat) (x : Value) (S' : LS) (hs : S'.s = S.s) (hc : (lwCells ln R S).setIfInBounds j x = lwCells ln R S') : LW (w.setCell ⟨Wd, j, none⟩ x) Wd R ln N S' H := by
  obtain ⟨H0, rfl, hr, hn, hz, hw⟩ := h
  refine ⟨H0, rfl, ?_, hn, hz, ?_⟩
  · rw [hs]
    exact hr.keeps setR_keeps (fun k hk hm => by
      obtain rfl : k = Wd := by simpa using hm
      exact hn hk) (by simpa using hz.symm)
  · rw [← hc]
    exact heap_setCell_same w Wd j _ _ x hw

/-- A note of what was written at an end. -/
theorem LW.wrote (h : LW w Wd R ln N S H) (u : Bool) (zs : List Int) : LW (w.setCell ⟨Wd, if u then 3 else 4, none⟩ (.string (strOfNums (S.wr u) ++ strOfNums zs))) Wd R ln N { S with wr := upd S.wr u (S.wr u ++ zs) } H := by
  refine h.str _ _ _ rfl ?_
  rw [strOf_app]
  cases u <;> rfl

/-- .. and of what was read (d: which way it went). -/
theorem LW.readd (h : LW w Wd R ln N S H) (d : Bool) (zs : List Int) : LW (w.setCell ⟨Wd, if d then 6 else 5, none⟩ (.string (strOfNums (S.rd d) ++ strOfNums zs))) Wd R ln N { S with rd := upd S.rd d (S.rd d ++ zs) } H := by
  refine h.str _ _ _ rfl ?_
  rw [strOf_app]
  cases d <;> rfl

theorem setW_keeps {j : Nat} {x : Value} (h : LW w Wd R ln N S H) : Keeps H w (w.setCell ⟨Wd, j, none⟩ x) := by
  obtain ⟨H0, rfl, _⟩ := h
  exact ⟨rfl, rfl, rfl, by simp, fun k _ hn => heap_setCell_other _ _ _ _ (fun e => hn (by simp [e]))⟩
end

/-- Nothing in it. -/
def line0 : Line := ⟨[], [], false, false⟩
def ls0 : LS := ⟨rs0 (fun _ => line0), fun _ => [], fun _ => []⟩

set_option maxRecDepth 100000 in
set_option maxHeartbeats 2000000 in
theorem lw_new (room : Int) (_h : I64 room) (w : World) (ho : Oth w) :
    Calls Tryd.prog 30 #[.int .i64 room] w fun e w' => ∃ (Wd R : Nat) (ln : Bool → Nat) (N : Nat) (H : List Nat), e = .returned (.pointer (some ⟨Wd, 0, none⟩)) ∧ (N : Int) = 1 + max 0 room % 30 ∧ LW w' Wd R ln N ls0 H ∧ Below w.heap.size w w' ∧ ∀ k, k ∈ H → w.heap.size ≤ k := by
  obtain ⟨B, hB⟩ : ∃ B, w.heap.size = B := ⟨_, rfl⟩
  have HO := Lib.hid ho
  have hpos := ho.pos
  rw [hB] at hpos
  clear ho
  go_enter Tryd.func30, Tryd.ntmps30
  go_upto_region 1 with fail
  go_cut [3] (fun v3 w' => ∃ n : Nat, (n : Int) = 1 + max 0 room % 30 ∧ 1 ≤ n ∧ n ≤ 30 ∧ v3 = .int .i64 n ∧ w = w')
  case first =>
    go_wp2_with fail
    all_goals (go_meet; first | exact ⟨(1 + room % 30).toNat, by omega, by omega, by omega, congrArg (Value.int .i64) (by omega), rfl⟩ | exact ⟨1, by omega, by omega, by omega, rfl, rfl⟩)
  case rest =>
  obtain ⟨N, hN, hN1, hN2, rfl, rfl⟩ := hcut
  have HN := Lib.hid hN
  clear hN
  go_wp2_with fail
  refine (p_new N (by omega) (by omega) w HO.out).mono ?_
  rintro e w4 ⟨p, F, rfl, hp, hb4, hF⟩
  rw [Int.toNat_natCast] at hp
  have HP := Lib.hid hp
  have HB4 := Lib.hid hb4
  have HF : Hid _ := hF
  clear hp hb4 hF
  go_wp2_with fail
  refine (p_new N (by omega) (by omega) w4 HP.out.oth).mono ?_
  rintro e w5 ⟨q, G, rfl, hq, hb5, hG⟩
  rw [Int.toNat_natCast] at hq
  have HQ := Lib.hid hq
  have HB5 := Lib.hid hb5
  have HG : Hid _ := hG
  have hlp : p < w4.heap.size := by
    have h := HP.out
    obtain ⟨b0, b1, F0, F1, hF, hpp, _⟩ := h
    exact (Array.getElem?_eq_some_iff.1 hpp).1
  have hlq : w4.heap.size ≤ q := by
    have h := HQ.out
    obtain ⟨b0, b1, F0, F1, hF, hpp, _⟩ := h
    exact HG.out q (by rw [hF]; simp)
  have HRN := Lib.hid (relay_new (w := w5) (ln := fun u => if u then p else q) (Fs := fun u => if u then F else G) (N := N) (l := fun _ => line0)
    (fun d => by cases d; · exact HQ.out
                 · exact HP.out.below HB5.out (Nat.le_refl _))
    (fun k h1 h2 => by have := HP.out.lt k h1; have := HG.out k h2; omega) (by show p ≠ q; omega))
  simp only [if_true, Bool.false_eq_true, if_false] at HRN
  clear hq hb5 hG
  go_wp2_with fail
  refine Calls.mono HRN.out ?_
  rintro e w6 ⟨R, H0, rfl, hrel, hb6, hRB, _, hH⟩
  have HRE := Lib.hid hrel
  have HB6 := Lib.hid hb6
  have HH : Hid _ := hH
  clear hrel hb6 hH HRN
  go_wp2_with fail
  go_ret
  have b4 : Below w.heap.size w w4 := HB4.out
  have s4 := HB4.out.size
  have s5 := HB5.out.size
  have s6 := HB6.out.size
  have b6 : Below w.heap.size w w6 := (b4.trans (HB5.out.mono s4)).trans (HB6.out.mono (by omega))
  have hall : ∀ k, k ∈ H0 → w.heap.size ≤ k := by
    intro k hk
    rcases HH.out k hk with ⟨d, hd⟩ | h
    · cases d
      · have := HG.out k hd; omega
      · exact HF.out k hd
    · omega
  refine ⟨w6.heap.size, R, fun u => if u then p else q, N, w6.heap.size :: H0, rfl, HN.out, ⟨H0, rfl, HRE.out.below ((Below.refl _ _).alloc (Nat.le_refl _) _), fun hm => ?_, ?_, heap_alloc_new w6 _⟩, b6.alloc (by omega) _, fun k hk => ?_⟩
  · have := HRE.out.lt _ hm
    omega
  · omega
  · rcases List.mem_cons.1 hk with rfl | hk
    · omega
    · exact hall k hk

end Go.Proofs.YthpdphbppapkhaaDoor
