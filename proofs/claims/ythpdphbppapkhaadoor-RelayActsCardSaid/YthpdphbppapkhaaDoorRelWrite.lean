/-
  The walk of a relay's handing on of what waits. No condition.
-/
import Derived.Test.YthpdphbppapkhaaDoorRelNew
namespace Go.Proofs.YthpdphbppapkhaaDoor
open Go.RowKit qb

attribute [local go_sem] Oper.semAt_some

/-- How many are handed on. -/
def sentN (s : RS) (d : Bool) (n : Int) (N : Nat) : Nat := took (count n (s.w d).length) ((s.l (!d)).x d).length N ((s.l (!d)).e d)

/-- The relay behind it. -/
def sentAs (s : RS) (d : Bool) (j : Nat) : RS :=
  { s with l := upd s.l (!d) ((s.l (!d)).set d ((s.l (!d)).x d ++ (s.w d).take j) ((s.l (!d)).e d)), w := upd s.w d ((s.w d).drop j) }

def sent (s : RS) (d : Bool) (n : Int) (N : Nat) : RS := sentAs s d (sentN s d n N)

theorem from_end (a : Option Addr) (c k : Nat) {j : Nat} (h : c = j) : Value.slice a (k - j) 0 = .slice (from_ a c j) (k - j) (c - j) := by
  unfold from_
  rw [if_pos h, h, Nat.sub_self]

theorem from_mid (a : Option Addr) (c k : Nat) {j : Nat} (h : ¬ c = j) : Value.slice (a.map fun x => x.add j) (k - j) (c - j) = .slice (from_ a c j) (k - j) (c - j) := by
  unfold from_
  rw [if_neg h]

theorem given_drewN {w : World} {F : List Nat} {a : Option Addr} {n c : Nat} {xs : List Int} (h : qb.GivenIn w F a n c xs) (k : Nat) : qb.GivenIn (w.drewN k) F a n c xs := h

/-- What a step leaves. -/
def Stepped (w : World) (R : Nat) (ln : Bool → Nat) (N : Nat) (H : List Nat) (s' : RS) (r : Bool) (e : Ending) (w' : World) : Prop :=
  e = .returned (.bool r) ∧ ∃ H', Rel w' R ln N s' H' ∧ Keeps H w w' ∧ ∀ k, k ∈ H' → k ∈ H ∨ w.heap.size ≤ k

theorem write_fin {w w3 : World} {R : Nat} {ln : Bool → Nat} {N : Nat} {s : RS} {K : Nat} {Fs : Bool → List Nat} {v : Bool → Value} {vE : Value} {evl : List (Ev × Value)} {Q : List Nat} {col col3 : Nat → Nat} {a : Option Addr} {k c j m : Nat} {F3 : List Nat}
    (h : RelAt w R ln N s K Fs v vE evl Q col) (d : Bool) (hjm : j ≤ m) (hmk : m ≤ k) (hsl : Slc w Q (.slice a k c) (s.w d))
    (h3 : RelAt w3 R ln N { s with l := upd s.l (!d) ((s.l (!d)).set d ((s.l (!d)).x d ++ ((s.w d).take m).take j) ((s.l (!d)).e d)) } K (upd Fs (!d) F3) v vE evl Q col3)
    (hk3 : Keeps (Fs (!d)) (w.drewN 1) w3) (hs3 : ∀ k, k ∈ F3 → k ∈ Fs (!d) ∨ (w.drewN 1).heap.size ≤ k) (u : Value) (hu : u = .slice (from_ a c j) (k - j) (c - j)) :
    Stepped w R ln N (RelH Fs R K vE Q) (sentAs s d j) (decide (0 < j)) (.returned (.bool (decide (0 < j)))) (w3.setCell ⟨R, if d then 10 else 4, none⟩ u) := by
  subst hu
  rw [List.take_take, Nat.min_eq_left hjm] at h3
  have hq : ∀ k, k ∈ Q → k ∉ Fs (!d) := fun x h1 h2 => by have a := h.cQ x h1; have b := h.cF _ x h2; rw [a] at b; cases d <;> simp [lc] at b
  have hk : Keeps (Fs (!d)) w w3 := ⟨hk3.os, hk3.tape, hk3.output, hk3.size, hk3.block⟩
  have hs : ∀ k, k ∈ F3 → k ∈ Fs (!d) ∨ w.heap.size ≤ k := hs3
  have h4 := h3.wait d ((hsl.drop (k := j) (by omega)).keeps hk hq)
  refine ⟨rfl, _, ⟨K, _, _, vE, evl, Q, _, rfl, h4⟩, ?_, fun x hx => ?_⟩
  · refine (Keeps.trans (F := RelH Fs R K vE Q) ⟨hk.os, hk.tape, hk.output, hk.size, fun x h1 h2 => hk.block x h1 (fun h3 => h2 (mem_relH.2 (.inl ⟨_, h3⟩)))⟩ setR_keeps (fun x hx => ?_))
    obtain rfl : x = R := by simpa using hx
    exact .inl (mem_relH.2 (.inr (.inl rfl)))
  · rcases mem_relH.1 hx with ⟨e, hd⟩ | hx
    · by_cases he : e = !d
      · subst he
        rw [upd_same] at hd
        rcases hs x hd with h | h
        · exact .inl (mem_relH.2 (.inl ⟨_, h⟩))
        · exact .inr h
      · rw [upd_ne _ _ he] at hd
        exact .inl (mem_relH.2 (.inl ⟨e, hd⟩))
    · exact .inl (mem_relH.2 (.inr hx))

set_option maxRecDepth 100000 in
set_option maxHeartbeats 4000000 in
theorem relay_write {w : World} {R : Nat} {ln : Bool → Nat} {N : Nat} {s : RS} {H : List Nat} (h : Rel w R ln N s H) (d : Bool) (side : Int) (hside : sd d = side) (n : Int) :
    Calls Tryd.prog 55 #[.pointer (some ⟨R, 0, none⟩), .int .i64 side, .int .i64 n] w (Stepped w R ln N H (sent s d n N) (decide (0 < sentN s d n N))) := by
  obtain ⟨K, Fs, v, vE, evl, Q, col, rfl, h⟩ := h
  obtain ⟨a, c, hv, hkc, hcm⟩ := (h.hw d).form
  obtain ⟨k, hk⟩ : ∃ k, (s.w d).length = k := ⟨_, rfl⟩
  obtain ⟨m, hm⟩ : ∃ m, count n (s.w d).length = m := ⟨_, rfl⟩
  obtain ⟨j, hj⟩ : ∃ j, sentN s d n N = j := ⟨_, rfl⟩
  have hjm : j ≤ m := by rw [← hj, ← hm]; exact took_le _ _ _ _
  have htk : took m ((s.l (!d)).x d).length N ((s.l (!d)).e d) = j := by rw [← hj, ← hm]; rfl
  have hmk : m ≤ k := by rw [← hm, ← hk]; exact count_le _ _
  rw [hk] at hv hkc hm
  have hsl : Slc w Q (.slice a k c) (s.w d) := by have := h.hw d; rwa [hv] at this
  have hgv : qb.GivenIn w (Fs (!d)) a m c ((s.w d).take m) := (hsl.cut hmk).given (fun x h1 h2 => by have a := h.cQ x h1; have b := h.cF _ x h2; rw [a] at b; cases d <;> simp [lc] at b)
  obtain ⟨p, hp⟩ : ∃ p, ln (!d) = p := ⟨_, rfl⟩
  have HA := Lib.hid h
  have HGV := Lib.hid hgv
  have HSL := Lib.hid hsl
  have HTK := Lib.hid htk
  have HP := Lib.hid hp
  have HV := Lib.hid hv
  have HK := Lib.hid hk
  have cj := fun j => h.cells j
  have hmn : (m : Int) = max 0 (min n k) := by rw [← hm]; unfold count; omega
  have HMN := Lib.hid hmn
  clear hmn
  have hmc : m ≤ c := by omega
  unfold sent
  rw [hj]
  cases d
  · have c1 : w.cell? ⟨R, 1, none⟩ = some (.pointer (some ⟨p, 0, none⟩)) := by rw [← hp]; exact cj 1
    have c3 : w.cell? ⟨R, 3, none⟩ = some (.int .i64 1) := cj 3
    have c4 : w.cell? ⟨R, 4, none⟩ = some (.slice a k c) := by rw [← hv]; exact cj 4
    simp only [sd, Bool.false_eq_true, if_false] at hside
    subst hside
    clear h hsl hgv htk hp hv hk cj hm hj
    go_enter Tryd.func55, Tryd.ntmps55
    go_wp2_with fail
    refine wp_region_noPanic ?_
    refine wp_region_held_drew (S := fun w' => w'.cell? ⟨R, 1, none⟩ = some (.pointer (some ⟨p, 0, none⟩)) ∧ w'.cell? ⟨R, 3, none⟩ = some (.int .i64 1) ∧ w'.cell? ⟨R, 4, none⟩ = some (.slice a k c)) (by kernel_rfl) (⟨c1, c3, c4⟩) (fun hHeld => ?_)
    refine wpAnyH_take (i := 0) (oi := ⟨some 14, _, _, _, _, _⟩) (v := ?_) rfl (by kernel_rfl) (by kernel_rfl) (by kernel_rfl) (fun _ _ _ h => h) (Or.inl ⟨by rfl, ?_⟩) hHeld ?_
    rotate_left
    · intro w hSw; (try dsimp only at hSw); go_simp; try with_reducible rfl
    try simp only [Act.put, List.setIfInBounds_toArray, List.set_cons_zero, List.set_cons_succ]
    refine wpAnyH_take (i := 1) (oi := ⟨some 15, _, _, _, _, _⟩) (v := ?_) rfl (by kernel_rfl) (by kernel_rfl) (by kernel_rfl) (fun _ _ _ h => h) (Or.inl ⟨by rfl, ?_⟩) hHeld ?_
    rotate_left
    · intro w hSw; (try dsimp only at hSw); go_simp; try with_reducible rfl
    try simp only [Act.put, List.setIfInBounds_toArray, List.set_cons_zero, List.set_cons_succ]
    refine wpAnyH_take (i := 2) (oi := ⟨some 16, _, _, _, _, _⟩) (v := ?_) rfl (by kernel_rfl) (by kernel_rfl) (by kernel_rfl) (fun _ _ _ h => h) (Or.inl ⟨by rfl, ?_⟩) hHeld ?_
    rotate_left
    · intro w hSw; (try dsimp only at hSw); go_simp; try with_reducible rfl
    try simp only [Act.put, List.setIfInBounds_toArray, List.set_cons_zero, List.set_cons_succ]
    refine wpAnyH_take (i := 3) (oi := ⟨some 17, _, _, _, _, _⟩) (v := ?_) rfl (by kernel_rfl) (by kernel_rfl) (by kernel_rfl) (fun _ _ _ h => h) (Or.inl ⟨by rfl, ?_⟩) hHeld ?_
    rotate_left
    · intro w hSw; (try dsimp only at hSw); go_simp; try with_reducible rfl
    try simp only [Act.put, List.setIfInBounds_toArray, List.set_cons_zero, List.set_cons_succ]
    refine wpAnyH_take (i := 4) (oi := ⟨some 18, _, _, _, _, _⟩) (v := ?_) rfl (by kernel_rfl) (by kernel_rfl) (by kernel_rfl) (fun _ _ _ h => h) (Or.inl ⟨by rfl, ?_⟩) hHeld ?_
    rotate_left
    · intro w hSw; (try dsimp only at hSw); go_simp; try with_reducible rfl
    try simp only [Act.put, List.setIfInBounds_toArray, List.set_cons_zero, List.set_cons_succ]
    refine wpAnyH_take (i := 5) (oi := ⟨some 19, _, _, _, _, _⟩) (v := ?_) rfl (by kernel_rfl) (by kernel_rfl) (by kernel_rfl) (fun _ _ _ h => h) (Or.inl ⟨by rfl, ?_⟩) hHeld ?_
    rotate_left
    · intro w hSw; (try dsimp only at hSw); go_simp; try with_reducible rfl
    try simp only [Act.put, List.setIfInBounds_toArray, List.set_cons_zero, List.set_cons_succ]
    refine wpAnyH_take (i := 6) (oi := ⟨some 20, _, _, _, _, _⟩) (v := ?_) rfl (by kernel_rfl) (by kernel_rfl) (by kernel_rfl) (fun _ _ _ h => h) (Or.inl ⟨by rfl, ?_⟩) hHeld ?_
    rotate_left
    · intro w hSw; (try dsimp only at hSw); go_simp; try with_reducible rfl
    try simp only [Act.put, List.setIfInBounds_toArray, List.set_cons_zero, List.set_cons_succ]
    refine wpAnyH_take (i := 7) (oi := ⟨some 21, _, _, _, _, _⟩) (v := ?_) rfl (by kernel_rfl) (by kernel_rfl) (by kernel_rfl) (fun _ _ _ h => h) (Or.inl ⟨by rfl, ?_⟩) hHeld ?_
    rotate_left
    · intro w hSw; (try dsimp only at hSw); go_simp; try with_reducible rfl
    try simp only [Act.put, List.setIfInBounds_toArray, List.set_cons_zero, List.set_cons_succ]
    refine wpAnyH_take (i := 8) (oi := ⟨some 22, _, _, _, _, _⟩) (v := ?_) rfl (by kernel_rfl) (by kernel_rfl) (by kernel_rfl) (fun _ _ _ h => h) (Or.inl ⟨by rfl, ?_⟩) hHeld ?_
    rotate_left
    · intro w hSw; (try dsimp only at hSw); go_simp; try with_reducible rfl
    try simp only [Act.put, List.setIfInBounds_toArray, List.set_cons_zero, List.set_cons_succ]
    refine wpAnyH_take (i := 9) (oi := ⟨some 23, _, _, _, _, _⟩) (v := ?_) rfl (by kernel_rfl) (by kernel_rfl) (by kernel_rfl) (fun _ _ _ h => h) (Or.inl ⟨by rfl, ?_⟩) hHeld ?_
    rotate_left
    · intro w hSw; (try dsimp only at hSw); go_simp; try with_reducible rfl
    try simp only [Act.put, List.setIfInBounds_toArray, List.set_cons_zero, List.set_cons_succ]
    refine wpAnyH_take (i := 10) (oi := ⟨some 24, _, _, _, _, _⟩) (v := ?_) rfl (by kernel_rfl) (by kernel_rfl) (by kernel_rfl) (fun _ _ _ h => h) (Or.inl ⟨by rfl, ?_⟩) hHeld ?_
    rotate_left
    · intro w hSw; (try dsimp only at hSw); go_simp; try with_reducible rfl
    try simp only [Act.put, List.setIfInBounds_toArray, List.set_cons_zero, List.set_cons_succ]
    refine wpAnyH_take (i := 11) (oi := ⟨some 25, _, _, _, _, _⟩) (v := ?_) rfl (by kernel_rfl) (by kernel_rfl) (by kernel_rfl) (fun _ _ _ h => h) (Or.inl ⟨by rfl, ?_⟩) hHeld ?_
    rotate_left
    · intro w hSw; (try dsimp only at hSw); go_simp; try with_reducible rfl
    try simp only [Act.put, List.setIfInBounds_toArray, List.set_cons_zero, List.set_cons_succ]
    refine wpAnyH_take (i := 12) (oi := ⟨some 26, _, _, _, _, _⟩) (v := ?_) rfl (by kernel_rfl) (by kernel_rfl) (by kernel_rfl) (fun _ _ _ h => h) (Or.inl ⟨by rfl, ?_⟩) hHeld ?_
    rotate_left
    · intro w hSw; (try dsimp only at hSw); go_simp; try with_reducible rfl
    try simp only [Act.put, List.setIfInBounds_toArray, List.set_cons_zero, List.set_cons_succ]
    refine wpAnyH_take (i := 13) (oi := ⟨some 27, _, _, _, _, _⟩) (v := ?_) rfl (by kernel_rfl) (by kernel_rfl) (by kernel_rfl) (fun _ _ _ h => h) (Or.inl ⟨by rfl, ?_⟩) hHeld ?_
    rotate_left
    · intro w hSw; (try dsimp only at hSw); go_simp; try with_reducible rfl
    try simp only [Act.put, List.setIfInBounds_toArray, List.set_cons_zero, List.set_cons_succ]
    refine wpAnyH_take (i := 14) (oi := ⟨some 28, _, _, _, _, _⟩) (v := ?_) rfl (by kernel_rfl) (by kernel_rfl) (by kernel_rfl) (fun _ _ _ h => h) (Or.inl ⟨by rfl, ?_⟩) hHeld ?_
    rotate_left
    · intro w hSw; (try dsimp only at hSw); go_simp; try with_reducible rfl
    try simp only [Act.put, List.setIfInBounds_toArray, List.set_cons_zero, List.set_cons_succ]
    refine wpAnyH_take (i := 15) (oi := ⟨some 29, _, _, _, _, _⟩) (v := ?_) rfl (by kernel_rfl) (by kernel_rfl) (by kernel_rfl) (fun _ _ _ h => h) (Or.inl ⟨by rfl, ?_⟩) hHeld ?_
    rotate_left
    · intro w hSw; (try dsimp only at hSw); go_simp; try with_reducible rfl
    try simp only [Act.put, List.setIfInBounds_toArray, List.set_cons_zero, List.set_cons_succ]
    refine wpAnyH_take (i := 16) (oi := ⟨some 30, _, _, _, _, _⟩) (v := ?_) rfl (by kernel_rfl) (by kernel_rfl) (by kernel_rfl) (fun _ _ _ h => h) (Or.inl ⟨by rfl, ?_⟩) hHeld ?_
    rotate_left
    · intro w hSw; (try dsimp only at hSw); go_simp; try with_reducible rfl
    try simp only [Act.put, List.setIfInBounds_toArray, List.set_cons_zero, List.set_cons_succ]
    refine wpAnyH_take (i := 17) (oi := ⟨some 31, _, _, _, _, _⟩) (v := ?_) rfl (by kernel_rfl) (by kernel_rfl) (by kernel_rfl) (fun _ _ _ h => h) (Or.inl ⟨by rfl, ?_⟩) hHeld ?_
    rotate_left
    · intro w hSw; (try dsimp only at hSw); go_simp; try with_reducible rfl
    try simp only [Act.put, List.setIfInBounds_toArray, List.set_cons_zero, List.set_cons_succ]
    refine wpAnyH_take (i := 18) (oi := ⟨some 32, _, _, _, _, _⟩) (v := .int .i64 (min n k)) rfl (by kernel_rfl) (by kernel_rfl) (by kernel_rfl) (fun _ _ _ h => h) (Or.inl ⟨by rfl, ?_⟩) hHeld ?_
    · intro w hSw; go_simp; split <;> omega
    try simp only [Act.put, List.setIfInBounds_toArray, List.set_cons_zero, List.set_cons_succ]
    refine wpAnyH_take (i := 19) (oi := ⟨some 33, _, _, _, _, _⟩) (v := .int .i64 m) rfl (by kernel_rfl) (by kernel_rfl) (by kernel_rfl) (fun _ _ _ h => h) (Or.inl ⟨by rfl, ?_⟩) hHeld ?_
    · intro w hSw; go_simp; rw [HMN.out]; split <;> omega
    try simp only [Act.put, List.setIfInBounds_toArray, List.set_cons_zero, List.set_cons_succ]
    refine wpAnyH_take (i := 20) (oi := ⟨some 34, _, _, _, _, _⟩) (v := .slice a m c) rfl (by kernel_rfl) (by kernel_rfl) (by kernel_rfl) (fun _ _ _ h => h) (Or.inl ⟨by rfl, ?_⟩) hHeld ?_
    · intro w hSw; (try dsimp only at hSw); go_simp
    try simp only [Act.put, List.setIfInBounds_toArray, List.set_cons_zero, List.set_cons_succ]
    refine wpAnyH_ready (rs := [21]) (by kernel_rfl) (by simp) (AllReadyH.cons (o := ⟨some 35, _, _, _, _, _⟩) rfl (fun K hK => ?_) AllReadyH.nil)
    go_simp
    refine (p_write_at (by rw [← HP.out]; exact (HA.out.hl (!false)).drewN 1) false 1 rfl a m c ((s.w false).take m) (given_drewN HGV.out 1) ((s.l (!false)).x false) ((s.l (!false)).e false) rfl rfl).mono ?_; rw [HTK.out]; rintro e3 w3 ⟨rfl, F3, hp3, hk3, hs3⟩; have hR3 := (HA.out.below (below_drewN (Below.refl _ _) 1)).line (!false) (by rw [HP.out]; exact hp3) hk3 hs3; have HR3 := Lib.hid hR3; have d1 : w3.cell? ⟨R, 1, none⟩ = some (.pointer (some ⟨p, 0, none⟩)) := (by rw [← HP.out]; exact hR3.cells 1); have d3 : w3.cell? ⟨R, 3, none⟩ = some (.int .i64 1) := hR3.cells 3; have d4 : w3.cell? ⟨R, 4, none⟩ = some (.slice a k c) := (by rw [← HV.out]; exact hR3.cells 4); have f4 : w3.frozen? ⟨R, 4, none⟩ = false := frozen_of_row _ _ _ _ _ hR3.hR; have HK3 := Lib.hid hk3; have HS3 : Hid _ := hs3; clear hp3 hk3 hs3 hR3
    refine hK.out _ _ (⟨d1, d3, d4⟩) (fun hHeld => ?_)
    clear hK K
    try simp only [Act.put, List.setIfInBounds_toArray, List.set_cons_zero, List.set_cons_succ]
    refine wpAnyH_take (i := 22) (oi := ⟨some 8, _, _, _, _, _⟩) (v := ?_) rfl (by kernel_rfl) (by kernel_rfl) (by kernel_rfl) (fun _ _ _ h => h) (Or.inl ⟨by rfl, ?_⟩) hHeld ?_
    rotate_left
    · intro w hSw; (try dsimp only at hSw); go_simp; try with_reducible rfl
    try simp only [Act.put, List.setIfInBounds_toArray, List.set_cons_zero, List.set_cons_succ]
    refine wpAnyH_done (by kernel_rfl) ?_ _
    refine NoPanic.normal ?_

    have FIN : Hid (∀ u, u = .slice (from_ a c j) (k - j) (c - j) → Stepped w R ln N (RelH Fs R K vE Q) (sentAs s false j) (decide (0 < j)) (.returned (.bool (decide (0 < j)))) (w3.setCell ⟨R, 4, none⟩ u)) :=
      fun u hu => write_fin HA.out false hjm hmk HSL.out HR3.out HK3.out HS3.out u hu
    clear HR3 HK3 HS3 HA HGV HSL
    go_wp2_with fail
    all_goals (first | subst_vars | skip)
    all_goals go_ret
    · exact FIN.out _ (from_end _ _ _ (by omega))
    · exact FIN.out _ (from_mid _ _ _ (by omega))
  · have c1 : w.cell? ⟨R, 7, none⟩ = some (.pointer (some ⟨p, 0, none⟩)) := by rw [← hp]; exact cj 7
    have c3 : w.cell? ⟨R, 9, none⟩ = some (.int .i64 0) := cj 9
    have c4 : w.cell? ⟨R, 10, none⟩ = some (.slice a k c) := by rw [← hv]; exact cj 10
    simp only [sd, if_true] at hside
    subst hside
    clear h hsl hgv htk hp hv hk cj hm hj
    go_enter Tryd.func55, Tryd.ntmps55
    go_wp2_with fail
    refine wp_region_noPanic ?_
    refine wp_region_held_drew (S := fun w' => w'.cell? ⟨R, 7, none⟩ = some (.pointer (some ⟨p, 0, none⟩)) ∧ w'.cell? ⟨R, 9, none⟩ = some (.int .i64 0) ∧ w'.cell? ⟨R, 10, none⟩ = some (.slice a k c)) (by kernel_rfl) (⟨c1, c3, c4⟩) (fun hHeld => ?_)
    refine wpAnyH_take (i := 0) (oi := ⟨some 14, _, _, _, _, _⟩) (v := ?_) rfl (by kernel_rfl) (by kernel_rfl) (by kernel_rfl) (fun _ _ _ h => h) (Or.inl ⟨by rfl, ?_⟩) hHeld ?_
    rotate_left
    · intro w hSw; (try dsimp only at hSw); go_simp; try with_reducible rfl
    try simp only [Act.put, List.setIfInBounds_toArray, List.set_cons_zero, List.set_cons_succ]
    refine wpAnyH_take (i := 1) (oi := ⟨some 15, _, _, _, _, _⟩) (v := ?_) rfl (by kernel_rfl) (by kernel_rfl) (by kernel_rfl) (fun _ _ _ h => h) (Or.inl ⟨by rfl, ?_⟩) hHeld ?_
    rotate_left
    · intro w hSw; (try dsimp only at hSw); go_simp; try with_reducible rfl
    try simp only [Act.put, List.setIfInBounds_toArray, List.set_cons_zero, List.set_cons_succ]
    refine wpAnyH_take (i := 2) (oi := ⟨some 16, _, _, _, _, _⟩) (v := ?_) rfl (by kernel_rfl) (by kernel_rfl) (by kernel_rfl) (fun _ _ _ h => h) (Or.inl ⟨by rfl, ?_⟩) hHeld ?_
    rotate_left
    · intro w hSw; (try dsimp only at hSw); go_simp; try with_reducible rfl
    try simp only [Act.put, List.setIfInBounds_toArray, List.set_cons_zero, List.set_cons_succ]
    refine wpAnyH_take (i := 3) (oi := ⟨some 17, _, _, _, _, _⟩) (v := ?_) rfl (by kernel_rfl) (by kernel_rfl) (by kernel_rfl) (fun _ _ _ h => h) (Or.inl ⟨by rfl, ?_⟩) hHeld ?_
    rotate_left
    · intro w hSw; (try dsimp only at hSw); go_simp; try with_reducible rfl
    try simp only [Act.put, List.setIfInBounds_toArray, List.set_cons_zero, List.set_cons_succ]
    refine wpAnyH_take (i := 4) (oi := ⟨some 18, _, _, _, _, _⟩) (v := ?_) rfl (by kernel_rfl) (by kernel_rfl) (by kernel_rfl) (fun _ _ _ h => h) (Or.inl ⟨by rfl, ?_⟩) hHeld ?_
    rotate_left
    · intro w hSw; (try dsimp only at hSw); go_simp; try with_reducible rfl
    try simp only [Act.put, List.setIfInBounds_toArray, List.set_cons_zero, List.set_cons_succ]
    refine wpAnyH_take (i := 5) (oi := ⟨some 19, _, _, _, _, _⟩) (v := ?_) rfl (by kernel_rfl) (by kernel_rfl) (by kernel_rfl) (fun _ _ _ h => h) (Or.inl ⟨by rfl, ?_⟩) hHeld ?_
    rotate_left
    · intro w hSw; (try dsimp only at hSw); go_simp; try with_reducible rfl
    try simp only [Act.put, List.setIfInBounds_toArray, List.set_cons_zero, List.set_cons_succ]
    refine wpAnyH_take (i := 6) (oi := ⟨some 20, _, _, _, _, _⟩) (v := ?_) rfl (by kernel_rfl) (by kernel_rfl) (by kernel_rfl) (fun _ _ _ h => h) (Or.inl ⟨by rfl, ?_⟩) hHeld ?_
    rotate_left
    · intro w hSw; (try dsimp only at hSw); go_simp; try with_reducible rfl
    try simp only [Act.put, List.setIfInBounds_toArray, List.set_cons_zero, List.set_cons_succ]
    refine wpAnyH_take (i := 7) (oi := ⟨some 21, _, _, _, _, _⟩) (v := ?_) rfl (by kernel_rfl) (by kernel_rfl) (by kernel_rfl) (fun _ _ _ h => h) (Or.inl ⟨by rfl, ?_⟩) hHeld ?_
    rotate_left
    · intro w hSw; (try dsimp only at hSw); go_simp; try with_reducible rfl
    try simp only [Act.put, List.setIfInBounds_toArray, List.set_cons_zero, List.set_cons_succ]
    refine wpAnyH_take (i := 8) (oi := ⟨some 22, _, _, _, _, _⟩) (v := ?_) rfl (by kernel_rfl) (by kernel_rfl) (by kernel_rfl) (fun _ _ _ h => h) (Or.inl ⟨by rfl, ?_⟩) hHeld ?_
    rotate_left
    · intro w hSw; (try dsimp only at hSw); go_simp; try with_reducible rfl
    try simp only [Act.put, List.setIfInBounds_toArray, List.set_cons_zero, List.set_cons_succ]
    refine wpAnyH_take (i := 9) (oi := ⟨some 23, _, _, _, _, _⟩) (v := ?_) rfl (by kernel_rfl) (by kernel_rfl) (by kernel_rfl) (fun _ _ _ h => h) (Or.inl ⟨by rfl, ?_⟩) hHeld ?_
    rotate_left
    · intro w hSw; (try dsimp only at hSw); go_simp; try with_reducible rfl
    try simp only [Act.put, List.setIfInBounds_toArray, List.set_cons_zero, List.set_cons_succ]
    refine wpAnyH_take (i := 10) (oi := ⟨some 24, _, _, _, _, _⟩) (v := ?_) rfl (by kernel_rfl) (by kernel_rfl) (by kernel_rfl) (fun _ _ _ h => h) (Or.inl ⟨by rfl, ?_⟩) hHeld ?_
    rotate_left
    · intro w hSw; (try dsimp only at hSw); go_simp; try with_reducible rfl
    try simp only [Act.put, List.setIfInBounds_toArray, List.set_cons_zero, List.set_cons_succ]
    refine wpAnyH_take (i := 11) (oi := ⟨some 25, _, _, _, _, _⟩) (v := ?_) rfl (by kernel_rfl) (by kernel_rfl) (by kernel_rfl) (fun _ _ _ h => h) (Or.inl ⟨by rfl, ?_⟩) hHeld ?_
    rotate_left
    · intro w hSw; (try dsimp only at hSw); go_simp; try with_reducible rfl
    try simp only [Act.put, List.setIfInBounds_toArray, List.set_cons_zero, List.set_cons_succ]
    refine wpAnyH_take (i := 12) (oi := ⟨some 26, _, _, _, _, _⟩) (v := ?_) rfl (by kernel_rfl) (by kernel_rfl) (by kernel_rfl) (fun _ _ _ h => h) (Or.inl ⟨by rfl, ?_⟩) hHeld ?_
    rotate_left
    · intro w hSw; (try dsimp only at hSw); go_simp; try with_reducible rfl
    try simp only [Act.put, List.setIfInBounds_toArray, List.set_cons_zero, List.set_cons_succ]
    refine wpAnyH_take (i := 13) (oi := ⟨some 27, _, _, _, _, _⟩) (v := ?_) rfl (by kernel_rfl) (by kernel_rfl) (by kernel_rfl) (fun _ _ _ h => h) (Or.inl ⟨by rfl, ?_⟩) hHeld ?_
    rotate_left
    · intro w hSw; (try dsimp only at hSw); go_simp; try with_reducible rfl
    try simp only [Act.put, List.setIfInBounds_toArray, List.set_cons_zero, List.set_cons_succ]
    refine wpAnyH_take (i := 14) (oi := ⟨some 28, _, _, _, _, _⟩) (v := ?_) rfl (by kernel_rfl) (by kernel_rfl) (by kernel_rfl) (fun _ _ _ h => h) (Or.inl ⟨by rfl, ?_⟩) hHeld ?_
    rotate_left
    · intro w hSw; (try dsimp only at hSw); go_simp; try with_reducible rfl
    try simp only [Act.put, List.setIfInBounds_toArray, List.set_cons_zero, List.set_cons_succ]
    refine wpAnyH_take (i := 15) (oi := ⟨some 29, _, _, _, _, _⟩) (v := ?_) rfl (by kernel_rfl) (by kernel_rfl) (by kernel_rfl) (fun _ _ _ h => h) (Or.inl ⟨by rfl, ?_⟩) hHeld ?_
    rotate_left
    · intro w hSw; (try dsimp only at hSw); go_simp; try with_reducible rfl
    try simp only [Act.put, List.setIfInBounds_toArray, List.set_cons_zero, List.set_cons_succ]
    refine wpAnyH_take (i := 16) (oi := ⟨some 30, _, _, _, _, _⟩) (v := ?_) rfl (by kernel_rfl) (by kernel_rfl) (by kernel_rfl) (fun _ _ _ h => h) (Or.inl ⟨by rfl, ?_⟩) hHeld ?_
    rotate_left
    · intro w hSw; (try dsimp only at hSw); go_simp; try with_reducible rfl
    try simp only [Act.put, List.setIfInBounds_toArray, List.set_cons_zero, List.set_cons_succ]
    refine wpAnyH_take (i := 17) (oi := ⟨some 31, _, _, _, _, _⟩) (v := ?_) rfl (by kernel_rfl) (by kernel_rfl) (by kernel_rfl) (fun _ _ _ h => h) (Or.inl ⟨by rfl, ?_⟩) hHeld ?_
    rotate_left
    · intro w hSw; (try dsimp only at hSw); go_simp; try with_reducible rfl
    try simp only [Act.put, List.setIfInBounds_toArray, List.set_cons_zero, List.set_cons_succ]
    refine wpAnyH_take (i := 18) (oi := ⟨some 32, _, _, _, _, _⟩) (v := .int .i64 (min n k)) rfl (by kernel_rfl) (by kernel_rfl) (by kernel_rfl) (fun _ _ _ h => h) (Or.inl ⟨by rfl, ?_⟩) hHeld ?_
    · intro w hSw; go_simp; split <;> omega
    try simp only [Act.put, List.setIfInBounds_toArray, List.set_cons_zero, List.set_cons_succ]
    refine wpAnyH_take (i := 19) (oi := ⟨some 33, _, _, _, _, _⟩) (v := .int .i64 m) rfl (by kernel_rfl) (by kernel_rfl) (by kernel_rfl) (fun _ _ _ h => h) (Or.inl ⟨by rfl, ?_⟩) hHeld ?_
    · intro w hSw; go_simp; rw [HMN.out]; split <;> omega
    try simp only [Act.put, List.setIfInBounds_toArray, List.set_cons_zero, List.set_cons_succ]
    refine wpAnyH_take (i := 20) (oi := ⟨some 34, _, _, _, _, _⟩) (v := .slice a m c) rfl (by kernel_rfl) (by kernel_rfl) (by kernel_rfl) (fun _ _ _ h => h) (Or.inl ⟨by rfl, ?_⟩) hHeld ?_
    · intro w hSw; (try dsimp only at hSw); go_simp
    try simp only [Act.put, List.setIfInBounds_toArray, List.set_cons_zero, List.set_cons_succ]
    refine wpAnyH_ready (rs := [21]) (by kernel_rfl) (by simp) (AllReadyH.cons (o := ⟨some 35, _, _, _, _, _⟩) rfl (fun K hK => ?_) AllReadyH.nil)
    go_simp
    refine (p_write_at (by rw [← HP.out]; exact (HA.out.hl (!true)).drewN 1) true 0 rfl a m c ((s.w true).take m) (given_drewN HGV.out 1) ((s.l (!true)).x true) ((s.l (!true)).e true) rfl rfl).mono ?_; rw [HTK.out]; rintro e3 w3 ⟨rfl, F3, hp3, hk3, hs3⟩; have hR3 := (HA.out.below (below_drewN (Below.refl _ _) 1)).line (!true) (by rw [HP.out]; exact hp3) hk3 hs3; have HR3 := Lib.hid hR3; have d1 : w3.cell? ⟨R, 7, none⟩ = some (.pointer (some ⟨p, 0, none⟩)) := (by rw [← HP.out]; exact hR3.cells 7); have d3 : w3.cell? ⟨R, 9, none⟩ = some (.int .i64 0) := hR3.cells 9; have d4 : w3.cell? ⟨R, 10, none⟩ = some (.slice a k c) := (by rw [← HV.out]; exact hR3.cells 10); have f4 : w3.frozen? ⟨R, 10, none⟩ = false := frozen_of_row _ _ _ _ _ hR3.hR; have HK3 := Lib.hid hk3; have HS3 : Hid _ := hs3; clear hp3 hk3 hs3 hR3
    refine hK.out _ _ (⟨d1, d3, d4⟩) (fun hHeld => ?_)
    clear hK K
    try simp only [Act.put, List.setIfInBounds_toArray, List.set_cons_zero, List.set_cons_succ]
    refine wpAnyH_take (i := 22) (oi := ⟨some 8, _, _, _, _, _⟩) (v := ?_) rfl (by kernel_rfl) (by kernel_rfl) (by kernel_rfl) (fun _ _ _ h => h) (Or.inl ⟨by rfl, ?_⟩) hHeld ?_
    rotate_left
    · intro w hSw; (try dsimp only at hSw); go_simp; try with_reducible rfl
    try simp only [Act.put, List.setIfInBounds_toArray, List.set_cons_zero, List.set_cons_succ]
    refine wpAnyH_done (by kernel_rfl) ?_ _
    refine NoPanic.normal ?_

    have FIN : Hid (∀ u, u = .slice (from_ a c j) (k - j) (c - j) → Stepped w R ln N (RelH Fs R K vE Q) (sentAs s true j) (decide (0 < j)) (.returned (.bool (decide (0 < j)))) (w3.setCell ⟨R, 10, none⟩ u)) :=
      fun u hu => write_fin HA.out true hjm hmk HSL.out HR3.out HK3.out HS3.out u hu
    clear HR3 HK3 HS3 HA HGV HSL
    go_wp2_with fail
    all_goals (first | subst_vars | skip)
    all_goals go_ret
    · exact FIN.out _ (from_end _ _ _ (by omega))
    · exact FIN.out _ (from_mid _ _ _ (by omega))

end Go.Proofs.YthpdphbppapkhaaDoor
