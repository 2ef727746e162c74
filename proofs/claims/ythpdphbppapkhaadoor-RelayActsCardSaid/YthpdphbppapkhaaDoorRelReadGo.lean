/-
  The walk of a relay's reading, where there may be something. No condition.
-/
import Derived.Test.YthpdphbppapkhaaDoorRelRead
namespace Go.Proofs.YthpdphbppapkhaaDoor
open Go.RowKit qb

attribute [local go_sem] Oper.semAt_some

theorem infoE : (Tryd.prog.info? 69).map (fun i => (i.zero, i.size, i.bytes)) = some (some (.agg #[.int .i64 0, .int .i64 0, .slice none 0 0]), 3, 40) := by kernel_rfl

/-- The relay behind its line's Read: what was read lies in blocks of its own. -/
theorem read_mid {w w3 : World} {R : Nat} {ln : Bool → Nat} {N : Nat} {s : RS} {K : Nat} {Fs : Bool → List Nat} {v : Bool → Value} {vE : Value} {evl : List (Ev × Value)} {Q : List Nat} {col : Nat → Nat}
    (h : RelAt w R ln N s K Fs v vE evl Q col) (d : Bool) {l' : Line} (hp : IsP w3 (ln d) (Fs d) N l') (hk : Keeps (Fs d) (w.drewN 1) w3) {b : Value} {k : Nat} {xs : List Value} (ho : w3.ownsRow (w.drewN 1).heap.size 5 1 b k xs) :
    ∃ col', RelAt w3 R ln N { s with l := upd s.l d l' } K Fs v vE evl (Q ++ b.ownBlock.toList) col' := by
  have hk' : Keeps (Fs d) w w3 := ⟨hk.os, hk.tape, hk.output, hk.size, hk.block⟩
  have h1 := h.line d hp hk' (fun _ h => .inl h)
  have e : upd Fs d (Fs d) = Fs := upd_self _ _
  rw [e] at h1
  exact ⟨_, h1.more w.heap.size h.lt _ (fun x hx => row_lt ho x hx)⟩

/-- Behind the note. -/
structure Read6 (w w8 : World) (R : Nat) (ln : Bool → Nat) (N : Nat) (s : RS) (K : Nat) (Fs : Bool → List Nat) (v : Bool → Value) (vE : Value) (Q : List Nat) (d : Bool) (T : Int) (k : Nat) (b : Value) (Q8 : List Nat) (col8 : Nat → Nat) (v8 : Value) (evl8 : List (Ev × Value)) : Prop where
  rel : RelAt w8 R ln N { s with l := upd s.l d ((s.l d).set d (((s.l d).x d).drop k) ((s.l d).e d)), t := T, ok := true, evs := s.evs ++ [⟨sd d, T, ((s.l d).x d).take k⟩] } K Fs v v8 evl8 Q8 col8
  keep : Keeps (RelH Fs R K vE Q) w w8
  sub : ∀ x, x ∈ RelH Fs R K v8 Q8 → x ∈ RelH Fs R K vE Q ∨ w.heap.size ≤ x
  slc : Slc w8 Q8 b (((s.l d).x d).take k)

theorem read6_fin {w w3 w4 w5 w6 w7 : World} {R : Nat} {ln : Bool → Nat} {N : Nat} {s : RS} {K : Nat} {Fs : Bool → List Nat} {v : Bool → Value} {vE : Value} {evl : List (Ev × Value)} {Q : List Nat} {col col6 : Nat → Nat}
    {sp bp da : Option Addr} {m sc k bc dc g cap z : Nat} {T : Int} {xs3 xs5 : List Value} (h : RelAt w R ln N s K Fs v vE evl Q col) (d : Bool) (hE : vE = .slice sp m sc) (hm : s.evs.length = m) (hlen : m + 1 ≤ 4096)
    (hk3 : Keeps (Fs d) (w.drewN 1) w3) (ho3 : w3.ownsRow (w.drewN 1).heap.size 5 1 (.slice bp k bc) k xs3) (hk4 : Keeps [K] (w3.drewN 1) w4) (hb5 : Below w4.heap.size w4 w5) (ho5 : w5.ownsRow w4.heap.size 5 1 (.slice da k dc) k xs5) (hb6 : Below w5.heap.size w5 w6)
    (h6 : RelAt w6 R ln N { s with l := upd s.l d ((s.l d).set d (((s.l d).x d).drop k) ((s.l d).e d)), t := T, ok := true } K Fs v vE evl ((Q ++ (Value.slice bp k bc).ownBlock.toList) ++ (Value.slice da k dc).ownBlock.toList) col6)
    (hs6 : Slc w6 ((Q ++ (Value.slice bp k bc).ownBlock.toList) ++ (Value.slice da k dc).ownBlock.toList) (.slice bp k bc) (((s.l d).x d).take k))
    (hd6 : Slc w6 ((Q ++ (Value.slice bp k bc).ownBlock.toList) ++ (Value.slice da k dc).ownBlock.toList) (.slice da k dc) (((s.l d).x d).take k))
    (ho7 : w7.ownsRow 0 69 3 (.slice (some ⟨g, 0, none⟩) (m + 1) cap) (m + 1) (evCells evl ++ [.int .i64 (sd d), .int .i64 T, .slice da k dc])) (hg7 : w6.grownBy w7 (Value.slice sp m sc).ownBlock)
    (hat : (Value.slice sp m sc).ownBlock = some g ∨ g = z + 1) (hzz : w6.heap.size = z + 1) :
    ∃ Q8 col8 evl8, Hid (Read6 w (w7.setCell ⟨R, 13, none⟩ (.slice (some ⟨g, 0, none⟩) (m + 1) cap)) R ln N s K Fs v vE Q d T k (.slice bp k bc) Q8 col8 (.slice (some ⟨g, 0, none⟩) (m + 1) cap) evl8) := by
  subst hE
  have s3 : w.heap.size ≤ w3.heap.size := hk3.size
  have s4 : w.heap.size ≤ w4.heap.size := Nat.le_trans s3 hk4.size
  have s5 : w.heap.size ≤ w5.heap.size := Nat.le_trans s4 hb5.size
  have s6 : w.heap.size ≤ w6.heap.size := Nat.le_trans s5 hb6.size
  obtain ⟨col8, h8⟩ := h6.note (e := ⟨sd d, T, ((s.l d).x d).take k⟩) hg7 (by simp only [hm]; exact ho7) (by
    rcases hat with hat | hat
    · exact .inl hat.symm
    · exact .inr ⟨g, rfl, by omega⟩) hd6 (by simp only [hm]; exact hlen)
  have hk7 : Keeps (Value.slice sp m sc).ownBlock.toList w6 w7 := ⟨hg7.os, hg7.tape, hg7.output, hg7.size, fun k hk hn => hg7.block k hk (fun e => hn (by rw [← e]; simp))⟩
  have sub1 : ∀ x, x ∈ [K] → x ∈ RelH Fs R K (.slice sp m sc) Q := fun x hx => by
    obtain rfl : x = K := by simpa using hx
    exact mem_relH.2 (.inr (.inr (.inl rfl)))
  have up : ∀ {X : List Nat} {a b : World}, Keeps X a b → (∀ x, x ∈ X → x ∈ RelH Fs R K (.slice sp m sc) Q) → Keeps (RelH Fs R K (.slice sp m sc) Q) a b := fun hk hX => ⟨hk.os, hk.tape, hk.output, hk.size, fun x h1 h2 => hk.block x h1 (fun h3 => h2 (hX x h3))⟩
  have k3 : Keeps (RelH Fs R K (.slice sp m sc) Q) w w3 := ⟨hk3.os, hk3.tape, hk3.output, hk3.size, fun x h1 h2 => hk3.block x h1 (fun h3 => h2 (mem_relH.2 (.inl ⟨d, h3⟩)))⟩
  have k4 : Keeps (RelH Fs R K (.slice sp m sc) Q) w3 w4 := ⟨hk4.os, hk4.tape, hk4.output, hk4.size, fun x h1 h2 => hk4.block x h1 (fun h3 => h2 (sub1 x h3))⟩
  have k6 : Keeps (RelH Fs R K (.slice sp m sc) Q) w4 w6 := Keeps.of_below (hb5.trans (hb6.mono hb5.size)) _
  have k7 := up hk7 (fun x hx => mem_relH.2 (.inr (.inr (.inr (.inl hx)))))
  have k8 : Keeps (RelH Fs R K (.slice sp m sc) Q) w7 (w7.setCell ⟨R, 13, none⟩ (.slice (some ⟨g, 0, none⟩) (m + 1) cap)) := up setR_keeps (fun x hx => by
    obtain rfl : x = R := by simpa using hx
    exact mem_relH.2 (.inr (.inl rfl)))
  refine ⟨_, col8, _, ⟨h8, (((k3.trans k4 (fun _ h => .inl h)).trans k6 (fun _ h => .inl h)).trans k7 (fun _ h => .inl h)).trans k8 (fun _ h => .inl h), fun x hx => ?_, ?_⟩⟩
  · rcases mem_relH.1 hx with hx | hx | hx | hx | hx
    · exact .inl (mem_relH.2 (.inl hx))
    · exact .inl (mem_relH.2 (.inr (.inl hx)))
    · exact .inl (mem_relH.2 (.inr (.inr (.inl hx))))
    · have e : x = g := by simpa [Value.ownBlock] using hx
      subst e
      rcases hat with hat | hat
      · exact .inl (mem_relH.2 (.inr (.inr (.inr (.inl (by rw [hat]; simp))))))
      · exact .inr (by omega)
    · rcases List.mem_append.1 hx with hx | hx
      · rcases List.mem_append.1 hx with hx | hx
        · exact .inl (mem_relH.2 (.inr (.inr (.inr (.inr hx)))))
        · exact .inr (row_lt ho3 x hx).1
      · exact .inr (Nat.le_trans s4 (row_lt ho5 x hx).1)
  · obtain ⟨a1, a2, a3, _⟩ := h6.col_ne
    exact (hs6.keeps hk7 (fun x hx => (a2 x hx).2.2)).keeps setR_keeps (fun x hx => by simpa using (a2 x hx).1)

theorem read_end {w w8 : World} {R : Nat} {ln : Bool → Nat} {N : Nat} {s : RS} {K : Nat} {Fs : Bool → List Nat} {v : Bool → Value} {vE b v8 : Value} {Q Q8 : List Nat} {col8 : Nat → Nat} {evl8 : List (Ev × Value)} {d : Bool} {t : Int} {k : Nat}
    (h : Read6 w w8 R ln N s K Fs v vE Q d (seeT s.t s.ok t) k b Q8 col8 v8 evl8) (hl : (k : Int) ≤ s.left) (hl2 : s.left ≤ 262144) :
    Stepped w R ln N (RelH Fs R K vE Q) (got s d k t) true (.returned (.bool true)) ((w8.setCell ⟨R, 14, none⟩ (.int .i64 (s.left - k))).setCell ⟨R, if d then 10 else 4, none⟩ b) := by
  obtain ⟨a1, a2, a3, _⟩ := h.rel.col_ne
  have h9 := h.rel.rest (x := s.left - k) (by omega)
  have h10 := h9.wait d (h.slc.keeps setR_keeps (fun x hx => by simpa using (a2 x hx).1))
  have up : ∀ {a b : World}, Keeps [R] a b → Keeps (RelH Fs R K vE Q) a b := fun hk => ⟨hk.os, hk.tape, hk.output, hk.size, fun x h1 h2 => hk.block x h1 (fun h3 => h2 (by
    obtain rfl : x = R := by simpa using h3
    exact mem_relH.2 (.inr (.inl rfl))))⟩
  exact ⟨rfl, _, ⟨K, _, _, _, _, Q8, _, rfl, h10⟩, (h.keep.trans (up setR_keeps) (fun _ h => .inl h)).trans (up setR_keeps) (fun _ h => .inl h), h.sub⟩

set_option maxRecDepth 100000 in
set_option maxHeartbeats 8000000 in
theorem read_go {w : World} {R : Nat} {ln : Bool → Nat} {N : Nat} {s : RS} {H : List Nat} (h : Rel w R ln N s H) (d : Bool) (side : Int) (hside : sd d = side) (n t : Int) (hc : ¬ cannot s d n) (k : Nat) (hk : readN s d n = k) (hpos : 0 < k) :
    Calls Tryd.prog 54 #[.pointer (some ⟨R, 0, none⟩), .int .i64 side, .int .i64 n, .int .i64 t] w (Stepped w R ln N H (got s d k t) true) := by
  obtain ⟨Kc, Fs, v, vE, evl, Q, col, rfl, h⟩ := h
  obtain ⟨a, c, hv, _, _⟩ := (h.hw d).form
  obtain ⟨sp, sc, hE⟩ : ∃ sp sc, vE = .slice sp s.evs.length sc := by
    rcases h.row.2 with ⟨rfl, e⟩ | ⟨g, cap, cur, rfl, _⟩
    · exact ⟨none, 0, by rw [e]⟩
    · exact ⟨_, _, rfl⟩
  obtain ⟨m, hm⟩ : ∃ m, s.evs.length = m := ⟨_, rfl⟩
  obtain ⟨lf, hlf⟩ : ∃ lf, s.left = lf := ⟨_, rfl⟩
  have hlb := h.lf
  have hlen := h.len
  unfold cannot at hc
  simp only [not_or] at hc
  obtain ⟨e1, e2, e3, e4, e5⟩ := hc
  rw [Bool.not_eq_true] at e2 e3
  have hk0 : (s.w d).length = 0 := by omega
  rw [hk0] at hv
  rw [hm] at hE hlen e5
  rw [hlf] at hlb
  obtain ⟨x, hx⟩ : ∃ x, min (min n 65536) lf = x := ⟨_, rfl⟩
  have hkc : count x ((s.l d).x d).length = k := by rw [← hk, ← hx, ← hlf]; rfl
  have HX := Lib.hid hx
  obtain ⟨p, hp⟩ : ∃ p, ln d = p := ⟨_, rfl⟩
  have hmz : ((m : Int) == 4096) = false := by simp; omega
  have cj := fun j => h.cells j
  have c0 : w.cell? ⟨R, 5, none⟩ = some (.bool false) := by rw [← e3]; exact cj 5
  have c13 : w.cell? ⟨R, 13, none⟩ = some (.slice sp m sc) := by rw [← hE]; exact cj 13
  have c14 : w.cell? ⟨R, 14, none⟩ = some (.int .i64 lf) := by rw [← hlf]; exact cj 14
  have HA := Lib.hid h
  have HKC := Lib.hid hkc
  have HP := Lib.hid hp
  have HV := Lib.hid hv
  have HE := Lib.hid hE
  have HM := Lib.hid hm
  have HLF := Lib.hid hlf
  have HC : Hid (¬ cannot s d n) := by unfold cannot; show ¬ _; simp only [not_or]; exact ⟨e1, by rw [e2]; simp, by rw [e3]; simp, e4, by rw [hm]; exact e5⟩
  have hlk : (k : Int) ≤ lf := by rw [← hkc, ← hx]; unfold count; omega
  have hkx : k ≤ ((s.l d).x d).length := by rw [← hkc]; exact count_le _ _
  have hk6 : k ≤ 65536 := by rw [← hkc, ← hx]; unfold count; omega
  have HKX := Lib.hid hkx
  have hm1 : m + 1 ≤ 4096 := by omega
  obtain ⟨T, hT⟩ : ∃ T, seeT s.t s.ok t = T := ⟨_, rfl⟩
  have HT := Lib.hid hT
  have HXL : Hid ((((s.l d).x d).take k).length = k) := by show _ = _; rw [List.length_take]; omega
  obtain ⟨i0, hi0, hz0, hz1, hz2⟩ := info_parts infoE
  have HPL : Hid (IsP (w.drewN 1) p (Fs d) N (s.l d)) := by rw [← hp]; exact (h.hl d).drewN 1
  have HPT : Hid (∀ {w3 : World} (l' : Line), IsP w3 p (Fs d) N l' → IsP w3 (ln d) (Fs d) N l') := fun l' h => by rw [hp]; exact h
  cases d
  · have g0 : w.cell? ⟨R, 0, none⟩ = some (.pointer (some ⟨p, 0, none⟩)) := by rw [← hp]; exact cj 0
    have g2 : w.cell? ⟨R, 2, none⟩ = some (.int .i64 0) := cj 2
    have g4 : w.cell? ⟨R, 4, none⟩ = some (.slice a 0 c) := by rw [← hv]; exact cj 4
    simp only [sd, Bool.false_eq_true, if_false] at hside
    subst hside
    clear h hx hkc hp hv hE hm hlf cj hk e1 e2 e3 e5 hk0 hkx hT
    go_enter Tryd.func54, Tryd.ntmps54
    go_wp2_with fail
    refine wp_region_noPanic ?_
    refine wp_region_held_drew (S := fun w' => w'.cell? ⟨R, 0, none⟩ = some (.pointer (some ⟨p, 0, none⟩)) ∧ w'.cell? ⟨R, 2, none⟩ = some (.int .i64 0) ∧ w'.cell? ⟨R, 14, none⟩ = some (.int .i64 lf)) (by kernel_rfl) (⟨g0, g2, c14⟩) (fun hHeld => ?_)
    refine wpAnyH_take (i := 0) (oi := ⟨some 48, _, _, _, _, _⟩) (v := ?_) rfl (by kernel_rfl) (by kernel_rfl) (by kernel_rfl) (fun _ _ _ h => h) (Or.inl ⟨by rfl, ?_⟩) hHeld ?_
    rotate_left
    · intro w hSw; (try dsimp only at hSw); go_simp; try with_reducible rfl
    try simp only [Act.put, List.setIfInBounds_toArray, List.set_cons_zero, List.set_cons_succ]
    refine wpAnyH_take (i := 1) (oi := ⟨some 49, _, _, _, _, _⟩) (v := ?_) rfl (by kernel_rfl) (by kernel_rfl) (by kernel_rfl) (fun _ _ _ h => h) (Or.inl ⟨by rfl, ?_⟩) hHeld ?_
    rotate_left
    · intro w hSw; (try dsimp only at hSw); go_simp; try with_reducible rfl
    try simp only [Act.put, List.setIfInBounds_toArray, List.set_cons_zero, List.set_cons_succ]
    refine wpAnyH_take (i := 2) (oi := ⟨some 50, _, _, _, _, _⟩) (v := ?_) rfl (by kernel_rfl) (by kernel_rfl) (by kernel_rfl) (fun _ _ _ h => h) (Or.inl ⟨by rfl, ?_⟩) hHeld ?_
    rotate_left
    · intro w hSw; (try dsimp only at hSw); go_simp; try with_reducible rfl
    try simp only [Act.put, List.setIfInBounds_toArray, List.set_cons_zero, List.set_cons_succ]
    refine wpAnyH_take (i := 3) (oi := ⟨some 51, _, _, _, _, _⟩) (v := ?_) rfl (by kernel_rfl) (by kernel_rfl) (by kernel_rfl) (fun _ _ _ h => h) (Or.inl ⟨by rfl, ?_⟩) hHeld ?_
    rotate_left
    · intro w hSw; (try dsimp only at hSw); go_simp; try with_reducible rfl
    try simp only [Act.put, List.setIfInBounds_toArray, List.set_cons_zero, List.set_cons_succ]
    refine wpAnyH_take (i := 4) (oi := ⟨some 52, _, _, _, _, _⟩) (v := ?_) rfl (by kernel_rfl) (by kernel_rfl) (by kernel_rfl) (fun _ _ _ h => h) (Or.inl ⟨by rfl, ?_⟩) hHeld ?_
    rotate_left
    · intro w hSw; (try dsimp only at hSw); go_simp; try with_reducible rfl
    try simp only [Act.put, List.setIfInBounds_toArray, List.set_cons_zero, List.set_cons_succ]
    refine wpAnyH_take (i := 5) (oi := ⟨some 53, _, _, _, _, _⟩) (v := ?_) rfl (by kernel_rfl) (by kernel_rfl) (by kernel_rfl) (fun _ _ _ h => h) (Or.inl ⟨by rfl, ?_⟩) hHeld ?_
    rotate_left
    · intro w hSw; (try dsimp only at hSw); go_simp; try with_reducible rfl
    try simp only [Act.put, List.setIfInBounds_toArray, List.set_cons_zero, List.set_cons_succ]
    refine wpAnyH_take (i := 6) (oi := ⟨some 54, _, _, _, _, _⟩) (v := ?_) rfl (by kernel_rfl) (by kernel_rfl) (by kernel_rfl) (fun _ _ _ h => h) (Or.inl ⟨by rfl, ?_⟩) hHeld ?_
    rotate_left
    · intro w hSw; (try dsimp only at hSw); go_simp; try with_reducible rfl
    try simp only [Act.put, List.setIfInBounds_toArray, List.set_cons_zero, List.set_cons_succ]
    refine wpAnyH_take (i := 7) (oi := ⟨some 55, _, _, _, _, _⟩) (v := ?_) rfl (by kernel_rfl) (by kernel_rfl) (by kernel_rfl) (fun _ _ _ h => h) (Or.inl ⟨by rfl, ?_⟩) hHeld ?_
    rotate_left
    · intro w hSw; (try dsimp only at hSw); go_simp; try with_reducible rfl
    try simp only [Act.put, List.setIfInBounds_toArray, List.set_cons_zero, List.set_cons_succ]
    refine wpAnyH_take (i := 8) (oi := ⟨some 56, _, _, _, _, _⟩) (v := ?_) rfl (by kernel_rfl) (by kernel_rfl) (by kernel_rfl) (fun _ _ _ h => h) (Or.inl ⟨by rfl, ?_⟩) hHeld ?_
    rotate_left
    · intro w hSw; (try dsimp only at hSw); go_simp; try with_reducible rfl
    try simp only [Act.put, List.setIfInBounds_toArray, List.set_cons_zero, List.set_cons_succ]
    refine wpAnyH_take (i := 9) (oi := ⟨some 57, _, _, _, _, _⟩) (v := ?_) rfl (by kernel_rfl) (by kernel_rfl) (by kernel_rfl) (fun _ _ _ h => h) (Or.inl ⟨by rfl, ?_⟩) hHeld ?_
    rotate_left
    · intro w hSw; (try dsimp only at hSw); go_simp; try with_reducible rfl
    try simp only [Act.put, List.setIfInBounds_toArray, List.set_cons_zero, List.set_cons_succ]
    refine wpAnyH_take (i := 10) (oi := ⟨some 58, _, _, _, _, _⟩) (v := ?_) rfl (by kernel_rfl) (by kernel_rfl) (by kernel_rfl) (fun _ _ _ h => h) (Or.inl ⟨by rfl, ?_⟩) hHeld ?_
    rotate_left
    · intro w hSw; (try dsimp only at hSw); go_simp; try with_reducible rfl
    try simp only [Act.put, List.setIfInBounds_toArray, List.set_cons_zero, List.set_cons_succ]
    refine wpAnyH_take (i := 11) (oi := ⟨some 59, _, _, _, _, _⟩) (v := ?_) rfl (by kernel_rfl) (by kernel_rfl) (by kernel_rfl) (fun _ _ _ h => h) (Or.inl ⟨by rfl, ?_⟩) hHeld ?_
    rotate_left
    · intro w hSw; (try dsimp only at hSw); go_simp; try with_reducible rfl
    try simp only [Act.put, List.setIfInBounds_toArray, List.set_cons_zero, List.set_cons_succ]
    refine wpAnyH_take (i := 12) (oi := ⟨some 60, _, _, _, _, _⟩) (v := ?_) rfl (by kernel_rfl) (by kernel_rfl) (by kernel_rfl) (fun _ _ _ h => h) (Or.inl ⟨by rfl, ?_⟩) hHeld ?_
    rotate_left
    · intro w hSw; (try dsimp only at hSw); go_simp; try with_reducible rfl
    try simp only [Act.put, List.setIfInBounds_toArray, List.set_cons_zero, List.set_cons_succ]
    refine wpAnyH_take (i := 13) (oi := ⟨some 61, _, _, _, _, _⟩) (v := .int .i64 x) rfl (by kernel_rfl) (by kernel_rfl) (by kernel_rfl) (fun _ _ _ h => h) (Or.inl ⟨by rfl, ?_⟩) hHeld ?_
    · intro w hSw; go_simp; have hx := HX.out; repeat' split; all_goals omega
    try simp only [Act.put, List.setIfInBounds_toArray, List.set_cons_zero, List.set_cons_succ]
    refine wpAnyH_ready (rs := [14]) (by kernel_rfl) (by simp) (AllReadyH.cons (o := ⟨some 62, _, _, _, _, _⟩) rfl (fun K hK => ?_) AllReadyH.nil)
    go_simp
    refine (p_read_at (w := w.drewN 1) (F := Fs false) (n := N) (s := s.l false) HPL.out false 0 rfl x ((s.l false).x false) ((s.l false).e false) rfl rfl).mono ?_; rw [HKC.out]; rintro e3 w3 ⟨bp, bc, rfl, hown3, hp3, hk3⟩; obtain ⟨col3, hR3⟩ := read_mid HA.out false (HPT.out _ hp3) hk3 hown3; have HR3 := Lib.hid hR3; have HO3 := Lib.hid hown3; have HK3 := Lib.hid hk3; have d0 : w3.cell? ⟨R, 0, none⟩ = some (.pointer (some ⟨p, 0, none⟩)) := (by rw [← HP.out]; exact hR3.cells 0); have d2 : w3.cell? ⟨R, 2, none⟩ = some (.int .i64 0) := hR3.cells 2; have d14 : w3.cell? ⟨R, 14, none⟩ = some (.int .i64 lf) := (by rw [← HLF.out]; exact hR3.cells 14); have d12 : w3.cell? ⟨R, 12, none⟩ = some (.pointer (some ⟨Kc, 0, none⟩)) := hR3.cells 12; have d13 : w3.cell? ⟨R, 13, none⟩ = some (.slice sp m sc) := (by rw [← HE.out]; exact hR3.cells 13); clear hown3 hp3 hk3 hR3
    refine hK.out _ _ (⟨d0, d2, d14⟩) (fun hHeld => ?_)
    clear hK K
    try simp only [Act.put, List.setIfInBounds_toArray, List.set_cons_zero, List.set_cons_succ]
    refine wpAnyH_take (i := 15) (oi := ⟨some 10, _, _, _, _, _⟩) (v := ?_) rfl (by kernel_rfl) (by kernel_rfl) (by kernel_rfl) (fun _ _ _ h => h) (Or.inl ⟨by rfl, ?_⟩) hHeld ?_
    rotate_left
    · intro w hSw; (try dsimp only at hSw); go_simp; try with_reducible rfl
    try simp only [Act.put, List.setIfInBounds_toArray, List.set_cons_zero, List.set_cons_succ]
    refine wpAnyH_done (by kernel_rfl) ?_ _
    refine NoPanic.normal ?_

    go_upto_region 6 with fail
    have HS3 : Hid (Slc w3 (Q ++ (Value.slice bp k bc).ownBlock.toList) (.slice bp k bc) (((s.l false).x false).take k)) := (Slc.of_own HO3.out).mono (fun x hx => List.mem_append.2 (.inr hx))
    go_cut [] (fun w' => ∃ (g cap : Nat) (Q8 : List Nat) (col8 : Nat → Nat) (evl8 : List (Ev × Value)), Hid (Read6 w w' R ln N s Kc Fs v vE Q false T k (.slice bp k bc) Q8 col8 (.slice (some ⟨g, 0, none⟩) (m + 1) cap) evl8))
    case first =>
      refine wp_region_noPanic ?_
      refine wp_region_held_drew (S := fun w' => w'.cell? ⟨R, 12, none⟩ = some (.pointer (some ⟨Kc, 0, none⟩))) (by kernel_rfl) (d12) (fun hHeld => ?_)
      refine wpAnyH_take (i := 0) (oi := ⟨some 66, _, _, _, _, _⟩) (v := ?_) rfl (by kernel_rfl) (by kernel_rfl) (by kernel_rfl) (fun _ _ _ h => h) (Or.inl ⟨by rfl, ?_⟩) hHeld ?_
      rotate_left
      · intro w hSw; (try dsimp only at hSw); go_simp; try with_reducible rfl
      try simp only [Act.put, List.setIfInBounds_toArray, List.set_cons_zero, List.set_cons_succ]
      refine wpAnyH_take (i := 1) (oi := ⟨some 67, _, _, _, _, _⟩) (v := ?_) rfl (by kernel_rfl) (by kernel_rfl) (by kernel_rfl) (fun _ _ _ h => h) (Or.inl ⟨by rfl, ?_⟩) hHeld ?_
      rotate_left
      · intro w hSw; (try dsimp only at hSw); go_simp; try with_reducible rfl
      try simp only [Act.put, List.setIfInBounds_toArray, List.set_cons_zero, List.set_cons_succ]
      refine wpAnyH_take (i := 2) (oi := ⟨some 68, _, _, _, _, _⟩) (v := ?_) rfl (by kernel_rfl) (by kernel_rfl) (by kernel_rfl) (fun _ _ _ h => h) (Or.inl ⟨by rfl, ?_⟩) hHeld ?_
      rotate_left
      · intro w hSw; (try dsimp only at hSw); go_simp; try with_reducible rfl
      try simp only [Act.put, List.setIfInBounds_toArray, List.set_cons_zero, List.set_cons_succ]
      refine wpAnyH_take (i := 3) (oi := ⟨some 69, _, _, _, _, _⟩) (v := ?_) rfl (by kernel_rfl) (by kernel_rfl) (by kernel_rfl) (fun _ _ _ h => h) (Or.inl ⟨by rfl, ?_⟩) hHeld ?_
      rotate_left
      · intro w hSw; (try dsimp only at hSw); go_simp; try with_reducible rfl
      try simp only [Act.put, List.setIfInBounds_toArray, List.set_cons_zero, List.set_cons_succ]
      refine wpAnyH_take (i := 5) (oi := ⟨some 71, _, _, _, _, _⟩) (v := ?_) rfl (by kernel_rfl) (by kernel_rfl) (by kernel_rfl) (fun _ _ _ h => h) (Or.inl ⟨by rfl, ?_⟩) hHeld ?_
      rotate_left
      · intro w hSw; (try dsimp only at hSw); go_simp; try with_reducible rfl
      try simp only [Act.put, List.setIfInBounds_toArray, List.set_cons_zero, List.set_cons_succ]
      refine wpAnyH_take (i := 6) (oi := ⟨some 72, _, _, _, _, _⟩) (v := ?_) rfl (by kernel_rfl) (by kernel_rfl) (by kernel_rfl) (fun _ _ _ h => h) (Or.inl ⟨by rfl, ?_⟩) hHeld ?_
      rotate_left
      · intro w hSw; (try dsimp only at hSw); go_simp; try with_reducible rfl
      try simp only [Act.put, List.setIfInBounds_toArray, List.set_cons_zero, List.set_cons_succ]
      refine wpAnyH_take (i := 7) (oi := ⟨some 73, _, _, _, _, _⟩) (v := ?_) rfl (by kernel_rfl) (by kernel_rfl) (by kernel_rfl) (fun _ _ _ h => h) (Or.inl ⟨by rfl, ?_⟩) hHeld ?_
      rotate_left
      · intro w hSw; (try dsimp only at hSw); go_simp; try with_reducible rfl
      try simp only [Act.put, List.setIfInBounds_toArray, List.set_cons_zero, List.set_cons_succ]
      refine wpAnyH_take (i := 8) (oi := ⟨some 74, _, _, _, _, _⟩) (v := ?_) rfl (by kernel_rfl) (by kernel_rfl) (by kernel_rfl) (fun _ _ _ h => h) (Or.inl ⟨by rfl, ?_⟩) hHeld ?_
      rotate_left
      · intro w hSw; (try dsimp only at hSw); go_simp; try with_reducible rfl
      try simp only [Act.put, List.setIfInBounds_toArray, List.set_cons_zero, List.set_cons_succ]
      refine wpAnyH_take (i := 9) (oi := ⟨some 75, _, _, _, _, _⟩) (v := ?_) rfl (by kernel_rfl) (by kernel_rfl) (by kernel_rfl) (fun _ _ _ h => h) (Or.inl ⟨by rfl, ?_⟩) hHeld ?_
      rotate_left
      · intro w hSw; (try dsimp only at hSw); go_simp; try with_reducible rfl
      try simp only [Act.put, List.setIfInBounds_toArray, List.set_cons_zero, List.set_cons_succ]
      refine wpAnyH_take (i := 10) (oi := ⟨some 76, _, _, _, _, _⟩) (v := ?_) rfl (by kernel_rfl) (by kernel_rfl) (by kernel_rfl) (fun _ _ _ h => h) (Or.inl ⟨by rfl, ?_⟩) hHeld ?_
      rotate_left
      · intro w hSw; (try dsimp only at hSw); go_simp; try with_reducible rfl
      try simp only [Act.put, List.setIfInBounds_toArray, List.set_cons_zero, List.set_cons_succ]
      refine wpAnyH_take (i := 12) (oi := ⟨some 78, _, _, _, _, _⟩) (v := ?_) rfl (by kernel_rfl) (by kernel_rfl) (by kernel_rfl) (fun _ _ _ h => h) (Or.inl ⟨by rfl, ?_⟩) hHeld ?_
      rotate_left
      · intro w hSw; (try dsimp only at hSw); go_simp; try with_reducible rfl
      try simp only [Act.put, List.setIfInBounds_toArray, List.set_cons_zero, List.set_cons_succ]
      refine wpAnyH_ready (rs := [4, 11]) (by kernel_rfl) (by simp) (AllReadyH.cons (o := ⟨some 70, _, _, _, _, _⟩) rfl (fun K hK => ?_) (AllReadyH.cons (o := ⟨some 77, _, _, _, _, _⟩) rfl (fun K hK => ?_) AllReadyH.nil))
      · go_simp
        refine hK.out _ _ (d12) (fun hHeld => ?_)
        clear hK K
        try simp only [Act.put, List.setIfInBounds_toArray, List.set_cons_zero, List.set_cons_succ]
        refine wpAnyH_ready (rs := [11]) (by kernel_rfl) (by simp) (AllReadyH.cons (o := ⟨some 77, _, _, _, _, _⟩) rfl (fun K hK => ?_) AllReadyH.nil)
        go_simp
        have hRd := HR3.out.below (below_drewN (Below.refl _ _) 1); refine (see_any (w := w3.drewN 1) hRd.hK hRd.ck t).mono ?_; clear hRd; rw [HT.out]; rintro e4 w4 ⟨rfl, hK4, hk4⟩; have hR4 := (HR3.out.below (below_drewN (Below.refl _ _) 1)).clk hk4 hK4 (fun h => by cases h); have HR4 := Lib.hid hR4; have q12 : w4.cell? ⟨R, 12, none⟩ = some (.pointer (some ⟨Kc, 0, none⟩)) := hR4.cells 12; have q13 : w4.cell? ⟨R, 13, none⟩ = some (.slice sp m sc) := (by rw [← HE.out]; exact hR4.cells 13); have HS4 := Lib.hid ((HR3.out.below (below_drewN (Below.refl _ _) 1)).keepK hk4 (HS3.out.below (below_drewN (Below.refl _ _) 1))); have HK4 := Lib.hid hk4; clear hK4 hk4 hR4
        refine hK.out _ _ (q12) (fun hHeld => ?_)
        clear hK K
        try simp only [Act.put, List.setIfInBounds_toArray, List.set_cons_zero, List.set_cons_succ]
        refine wpAnyH_ready (rs := [13]) (by kernel_rfl) (by simp) (AllReadyH.cons (o := ⟨some 79, _, _, _, _, _⟩) rfl (fun K hK => ?_) AllReadyH.nil)
        go_simp
        refine (clone_any HS4.out (by rw [HXL.out]; omega)).mono ?_; rw [HXL.out]; rintro e5 w5 ⟨dv, rfl, hown5, hb5⟩; obtain ⟨da, dc, rfl⟩ := own_form hown5; have hR5 := (HR4.out.below hb5).more w4.heap.size HR4.out.lt _ (fun x hx => row_lt hown5 x hx); have HR5 := Lib.hid hR5; have r12 : w5.cell? ⟨R, 12, none⟩ = some (.pointer (some ⟨Kc, 0, none⟩)) := hR5.cells 12; have r13 : w5.cell? ⟨R, 13, none⟩ = some (.slice sp m sc) := (by rw [← HE.out]; exact hR5.cells 13); have HS5 := Lib.hid ((HS4.out.below hb5).mono (Q' := (Q ++ (Value.slice bp k bc).ownBlock.toList) ++ (Value.slice da k dc).ownBlock.toList) (fun x hx => List.mem_append.2 (.inl hx))); have HD5 := Lib.hid ((Slc.of_own hown5).mono (Q' := (Q ++ (Value.slice bp k bc).ownBlock.toList) ++ (Value.slice da k dc).ownBlock.toList) (fun x hx => List.mem_append.2 (.inr hx))); have HB5 := Lib.hid hb5; have HW5 := Lib.hid hown5; clear hown5 hb5 hR5
        refine hK.out _ _ (r12) (fun hHeld => ?_)
        clear hK K
        try simp only [Act.put, List.setIfInBounds_toArray, List.set_cons_zero, List.set_cons_succ]
        refine wpAnyH_take (i := 14) (oi := ⟨some 80, _, _, _, _, _⟩) (v := ?_) rfl (by kernel_rfl) (by kernel_rfl) (by kernel_rfl) (fun _ _ _ h => h) (Or.inl ⟨by rfl, ?_⟩) hHeld ?_
        rotate_left
        · intro w hSw; (try dsimp only at hSw); go_simp; try with_reducible rfl
        try simp only [Act.put, List.setIfInBounds_toArray, List.set_cons_zero, List.set_cons_succ]
        refine wpAnyH_ready (rs := [15]) (by kernel_rfl) (by simp) (AllReadyH.cons (o := ⟨some 81, _, _, _, _, _⟩) rfl (fun K hK => ?_) AllReadyH.nil)
        go_simp
        obtain ⟨w6, hw6⟩ : ∃ w6, w5.alloc (.cells #[.int .i64 0, .int .i64 T, .slice da k dc] 69) = w6 := ⟨_, rfl⟩; have hz6 : w6.heap[w5.heap.size]? = some (.cells #[.int .i64 0, .int .i64 T, .slice da k dc] 69 (0, 0)) := (by rw [← hw6]; exact heap_alloc_new w5 _); have hb6 : Below w5.heap.size w5 w6 := (by rw [← hw6]; exact (Below.refl _ _).alloc (Nat.le_refl _) _); rw [hw6]; obtain ⟨z, hz⟩ : ∃ z, w5.heap.size = z := ⟨_, rfl⟩; have hzz : w6.heap.size = z + 1 := (by rw [← hw6, World.size_alloc, hz]); have hR6 := HR5.out.below hb6; have HR6 := Lib.hid hR6; have HZ6 := Lib.hid hz6; have s12 : w6.cell? ⟨R, 12, none⟩ = some (.pointer (some ⟨Kc, 0, none⟩)) := hR6.cells 12; have s13 : w6.cell? ⟨R, 13, none⟩ = some (.slice sp m sc) := (by rw [← HE.out]; exact hR6.cells 13); have HS6 := Lib.hid (HS5.out.below hb6); have HD6 := Lib.hid (HD5.out.below hb6); have HB6 := Lib.hid hb6; rw [hz] at HZ6; clear hw6 hz6 hb6 hR6; (try simp only [hz])
        refine hK.out _ _ (s12) (fun hHeld => ?_)
        clear hK K
        try simp only [Act.put, List.setIfInBounds_toArray, List.set_cons_zero, List.set_cons_succ]
        refine wpAnyH_ready (rs := [16]) (by kernel_rfl) (by simp) (AllReadyH.cons (o := ⟨some 82, _, _, _, _, _⟩) rfl (fun K hK => ?_) AllReadyH.nil)
        refine step_append_lies _ (by rfl) (.tmp 70) (.tmp 81) 61 (by rfl) 0 69 i0 _ 3 40 Tryd.underlying61 hi0 hz0 hz1 hz2 rfl (by omega) (.slice sp m sc) m (evCells evl) (by rfl) (by have := HR6.out.row; rw [HE.out] at this; simp only [HM.out] at this; exact this) ⟨z, 0, none⟩ 1 1 [.int .i64 0, .int .i64 T, .slice da k dc] (by rfl) (by rfl) (World.news_of_block HZ6.out) (by intro u hu; simp at hu; rcases hu with rfl | rfl | rfl <;> rfl) (by omega) (by unfold maxLen; omega) (by omega) (by omega) (z + 1) hzz ?_; intro g cap w7 hown7 hgrow7 hat7 hlt7; have HO7 := Lib.hid hown7; have HG7 := Lib.hid hgrow7; have HAT := Lib.hid hat7; have hR7 := HR6.out.grownR (by rw [HE.out]; exact hgrow7); have t12 : w7.cell? ⟨R, 12, none⟩ = some (.pointer (some ⟨Kc, 0, none⟩)) := cell_at hR7 12; have t13 : w7.cell? ⟨R, 13, none⟩ = some (.slice sp m sc) := (by rw [← HE.out]; exact cell_at hR7 13); have tf13 : w7.frozen? ⟨R, 13, none⟩ = false := frozen_of_row _ _ _ _ _ hR7; have HR7 := Lib.hid hR7; clear hown7 hgrow7 hat7 hR7
        refine hK.out _ _ (t12) (fun hHeld => ?_)
        clear hK K
        try simp only [Act.put, List.setIfInBounds_toArray, List.set_cons_zero, List.set_cons_succ]
        refine wpAnyH_take (i := 17) (oi := ⟨some 83, _, _, _, _, _⟩) (v := ?_) rfl (by kernel_rfl) (by kernel_rfl) (by kernel_rfl) (fun _ _ _ h => h) (Or.inl ⟨by rfl, ?_⟩) hHeld ?_
        rotate_left
        · intro w hSw; (try dsimp only at hSw); go_simp; try with_reducible rfl
        try simp only [Act.put, List.setIfInBounds_toArray, List.set_cons_zero, List.set_cons_succ]
        refine wpAnyH_take (i := 18) (oi := ⟨some 84, _, _, _, _, _⟩) (v := ?_) rfl (by kernel_rfl) (by kernel_rfl) (by kernel_rfl) (fun _ _ _ h => h) (Or.inl ⟨by rfl, ?_⟩) hHeld ?_
        rotate_left
        · intro w hSw; (try dsimp only at hSw); go_simp; try with_reducible rfl
        try simp only [Act.put, List.setIfInBounds_toArray, List.set_cons_zero, List.set_cons_succ]
        refine wpAnyH_ready (rs := [19]) (by kernel_rfl) (by simp) (AllReadyH.cons (o := ⟨none, _, _, _, _, _⟩) rfl (fun K hK => ?_) AllReadyH.nil)
        go_simp
        have u12 : (w7.setCell ⟨R, 13, none⟩ (.slice (some ⟨g, 0, none⟩) (m + 1) cap)).cell? ⟨R, 12, none⟩ = some (.pointer (some ⟨Kc, 0, none⟩)) := cell_at (heap_setCell_same w7 R 13 _ _ _ HR7.out) 12
        refine hK.out _ _ (u12) (fun hHeld => ?_)
        clear hK K
        try simp only [Act.put, List.setIfInBounds_toArray, List.set_cons_zero, List.set_cons_succ]
        refine wpAnyH_done (by kernel_rfl) ?_ _
        refine NoPanic.normal ?_
        obtain ⟨Q8, col8, evl8, HRR⟩ := read6_fin HA.out false HE.out HM.out hm1 HK3.out HO3.out HK4.out HB5.out HW5.out HB6.out HR6.out HS6.out HD6.out HO7.out HG7.out HAT.out hzz
        go_wp2_with fail
        go_meet
        exact ⟨_, _, Q8, col8, evl8, HRR⟩
      · go_simp
        have hRd := HR3.out.below (below_drewN (Below.refl _ _) 1); refine (see_any (w := w3.drewN 1) hRd.hK hRd.ck t).mono ?_; clear hRd; rw [HT.out]; rintro e4 w4 ⟨rfl, hK4, hk4⟩; have hR4 := (HR3.out.below (below_drewN (Below.refl _ _) 1)).clk hk4 hK4 (fun h => by cases h); have HR4 := Lib.hid hR4; have q12 : w4.cell? ⟨R, 12, none⟩ = some (.pointer (some ⟨Kc, 0, none⟩)) := hR4.cells 12; have q13 : w4.cell? ⟨R, 13, none⟩ = some (.slice sp m sc) := (by rw [← HE.out]; exact hR4.cells 13); have HS4 := Lib.hid ((HR3.out.below (below_drewN (Below.refl _ _) 1)).keepK hk4 (HS3.out.below (below_drewN (Below.refl _ _) 1))); have HK4 := Lib.hid hk4; clear hK4 hk4 hR4
        refine hK.out _ _ (q12) (fun hHeld => ?_)
        clear hK K
        try simp only [Act.put, List.setIfInBounds_toArray, List.set_cons_zero, List.set_cons_succ]
        refine wpAnyH_ready (rs := [4, 13]) (by kernel_rfl) (by simp) (AllReadyH.cons (o := ⟨some 70, _, _, _, _, _⟩) rfl (fun K hK => ?_) (AllReadyH.cons (o := ⟨some 79, _, _, _, _, _⟩) rfl (fun K hK => ?_) AllReadyH.nil))
        · go_simp
          refine hK.out _ _ (q12) (fun hHeld => ?_)
          clear hK K
          try simp only [Act.put, List.setIfInBounds_toArray, List.set_cons_zero, List.set_cons_succ]
          refine wpAnyH_ready (rs := [13]) (by kernel_rfl) (by simp) (AllReadyH.cons (o := ⟨some 79, _, _, _, _, _⟩) rfl (fun K hK => ?_) AllReadyH.nil)
          go_simp
          refine (clone_any HS4.out (by rw [HXL.out]; omega)).mono ?_; rw [HXL.out]; rintro e5 w5 ⟨dv, rfl, hown5, hb5⟩; obtain ⟨da, dc, rfl⟩ := own_form hown5; have hR5 := (HR4.out.below hb5).more w4.heap.size HR4.out.lt _ (fun x hx => row_lt hown5 x hx); have HR5 := Lib.hid hR5; have r12 : w5.cell? ⟨R, 12, none⟩ = some (.pointer (some ⟨Kc, 0, none⟩)) := hR5.cells 12; have r13 : w5.cell? ⟨R, 13, none⟩ = some (.slice sp m sc) := (by rw [← HE.out]; exact hR5.cells 13); have HS5 := Lib.hid ((HS4.out.below hb5).mono (Q' := (Q ++ (Value.slice bp k bc).ownBlock.toList) ++ (Value.slice da k dc).ownBlock.toList) (fun x hx => List.mem_append.2 (.inl hx))); have HD5 := Lib.hid ((Slc.of_own hown5).mono (Q' := (Q ++ (Value.slice bp k bc).ownBlock.toList) ++ (Value.slice da k dc).ownBlock.toList) (fun x hx => List.mem_append.2 (.inr hx))); have HB5 := Lib.hid hb5; have HW5 := Lib.hid hown5; clear hown5 hb5 hR5
          refine hK.out _ _ (r12) (fun hHeld => ?_)
          clear hK K
          try simp only [Act.put, List.setIfInBounds_toArray, List.set_cons_zero, List.set_cons_succ]
          refine wpAnyH_take (i := 14) (oi := ⟨some 80, _, _, _, _, _⟩) (v := ?_) rfl (by kernel_rfl) (by kernel_rfl) (by kernel_rfl) (fun _ _ _ h => h) (Or.inl ⟨by rfl, ?_⟩) hHeld ?_
          rotate_left
          · intro w hSw; (try dsimp only at hSw); go_simp; try with_reducible rfl
          try simp only [Act.put, List.setIfInBounds_toArray, List.set_cons_zero, List.set_cons_succ]
          refine wpAnyH_ready (rs := [15]) (by kernel_rfl) (by simp) (AllReadyH.cons (o := ⟨some 81, _, _, _, _, _⟩) rfl (fun K hK => ?_) AllReadyH.nil)
          go_simp
          obtain ⟨w6, hw6⟩ : ∃ w6, w5.alloc (.cells #[.int .i64 0, .int .i64 T, .slice da k dc] 69) = w6 := ⟨_, rfl⟩; have hz6 : w6.heap[w5.heap.size]? = some (.cells #[.int .i64 0, .int .i64 T, .slice da k dc] 69 (0, 0)) := (by rw [← hw6]; exact heap_alloc_new w5 _); have hb6 : Below w5.heap.size w5 w6 := (by rw [← hw6]; exact (Below.refl _ _).alloc (Nat.le_refl _) _); rw [hw6]; obtain ⟨z, hz⟩ : ∃ z, w5.heap.size = z := ⟨_, rfl⟩; have hzz : w6.heap.size = z + 1 := (by rw [← hw6, World.size_alloc, hz]); have hR6 := HR5.out.below hb6; have HR6 := Lib.hid hR6; have HZ6 := Lib.hid hz6; have s12 : w6.cell? ⟨R, 12, none⟩ = some (.pointer (some ⟨Kc, 0, none⟩)) := hR6.cells 12; have s13 : w6.cell? ⟨R, 13, none⟩ = some (.slice sp m sc) := (by rw [← HE.out]; exact hR6.cells 13); have HS6 := Lib.hid (HS5.out.below hb6); have HD6 := Lib.hid (HD5.out.below hb6); have HB6 := Lib.hid hb6; rw [hz] at HZ6; clear hw6 hz6 hb6 hR6; (try simp only [hz])
          refine hK.out _ _ (s12) (fun hHeld => ?_)
          clear hK K
          try simp only [Act.put, List.setIfInBounds_toArray, List.set_cons_zero, List.set_cons_succ]
          refine wpAnyH_ready (rs := [16]) (by kernel_rfl) (by simp) (AllReadyH.cons (o := ⟨some 82, _, _, _, _, _⟩) rfl (fun K hK => ?_) AllReadyH.nil)
          refine step_append_lies _ (by rfl) (.tmp 70) (.tmp 81) 61 (by rfl) 0 69 i0 _ 3 40 Tryd.underlying61 hi0 hz0 hz1 hz2 rfl (by omega) (.slice sp m sc) m (evCells evl) (by rfl) (by have := HR6.out.row; rw [HE.out] at this; simp only [HM.out] at this; exact this) ⟨z, 0, none⟩ 1 1 [.int .i64 0, .int .i64 T, .slice da k dc] (by rfl) (by rfl) (World.news_of_block HZ6.out) (by intro u hu; simp at hu; rcases hu with rfl | rfl | rfl <;> rfl) (by omega) (by unfold maxLen; omega) (by omega) (by omega) (z + 1) hzz ?_; intro g cap w7 hown7 hgrow7 hat7 hlt7; have HO7 := Lib.hid hown7; have HG7 := Lib.hid hgrow7; have HAT := Lib.hid hat7; have hR7 := HR6.out.grownR (by rw [HE.out]; exact hgrow7); have t12 : w7.cell? ⟨R, 12, none⟩ = some (.pointer (some ⟨Kc, 0, none⟩)) := cell_at hR7 12; have t13 : w7.cell? ⟨R, 13, none⟩ = some (.slice sp m sc) := (by rw [← HE.out]; exact cell_at hR7 13); have tf13 : w7.frozen? ⟨R, 13, none⟩ = false := frozen_of_row _ _ _ _ _ hR7; have HR7 := Lib.hid hR7; clear hown7 hgrow7 hat7 hR7
          refine hK.out _ _ (t12) (fun hHeld => ?_)
          clear hK K
          try simp only [Act.put, List.setIfInBounds_toArray, List.set_cons_zero, List.set_cons_succ]
          refine wpAnyH_take (i := 17) (oi := ⟨some 83, _, _, _, _, _⟩) (v := ?_) rfl (by kernel_rfl) (by kernel_rfl) (by kernel_rfl) (fun _ _ _ h => h) (Or.inl ⟨by rfl, ?_⟩) hHeld ?_
          rotate_left
          · intro w hSw; (try dsimp only at hSw); go_simp; try with_reducible rfl
          try simp only [Act.put, List.setIfInBounds_toArray, List.set_cons_zero, List.set_cons_succ]
          refine wpAnyH_take (i := 18) (oi := ⟨some 84, _, _, _, _, _⟩) (v := ?_) rfl (by kernel_rfl) (by kernel_rfl) (by kernel_rfl) (fun _ _ _ h => h) (Or.inl ⟨by rfl, ?_⟩) hHeld ?_
          rotate_left
          · intro w hSw; (try dsimp only at hSw); go_simp; try with_reducible rfl
          try simp only [Act.put, List.setIfInBounds_toArray, List.set_cons_zero, List.set_cons_succ]
          refine wpAnyH_ready (rs := [19]) (by kernel_rfl) (by simp) (AllReadyH.cons (o := ⟨none, _, _, _, _, _⟩) rfl (fun K hK => ?_) AllReadyH.nil)
          go_simp
          have u12 : (w7.setCell ⟨R, 13, none⟩ (.slice (some ⟨g, 0, none⟩) (m + 1) cap)).cell? ⟨R, 12, none⟩ = some (.pointer (some ⟨Kc, 0, none⟩)) := cell_at (heap_setCell_same w7 R 13 _ _ _ HR7.out) 12
          refine hK.out _ _ (u12) (fun hHeld => ?_)
          clear hK K
          try simp only [Act.put, List.setIfInBounds_toArray, List.set_cons_zero, List.set_cons_succ]
          refine wpAnyH_done (by kernel_rfl) ?_ _
          refine NoPanic.normal ?_
          obtain ⟨Q8, col8, evl8, HRR⟩ := read6_fin HA.out false HE.out HM.out hm1 HK3.out HO3.out HK4.out HB5.out HW5.out HB6.out HR6.out HS6.out HD6.out HO7.out HG7.out HAT.out hzz
          go_wp2_with fail
          go_meet
          exact ⟨_, _, Q8, col8, evl8, HRR⟩
        · go_simp
          refine (clone_any HS4.out (by rw [HXL.out]; omega)).mono ?_; rw [HXL.out]; rintro e5 w5 ⟨dv, rfl, hown5, hb5⟩; obtain ⟨da, dc, rfl⟩ := own_form hown5; have hR5 := (HR4.out.below hb5).more w4.heap.size HR4.out.lt _ (fun x hx => row_lt hown5 x hx); have HR5 := Lib.hid hR5; have r12 : w5.cell? ⟨R, 12, none⟩ = some (.pointer (some ⟨Kc, 0, none⟩)) := hR5.cells 12; have r13 : w5.cell? ⟨R, 13, none⟩ = some (.slice sp m sc) := (by rw [← HE.out]; exact hR5.cells 13); have HS5 := Lib.hid ((HS4.out.below hb5).mono (Q' := (Q ++ (Value.slice bp k bc).ownBlock.toList) ++ (Value.slice da k dc).ownBlock.toList) (fun x hx => List.mem_append.2 (.inl hx))); have HD5 := Lib.hid ((Slc.of_own hown5).mono (Q' := (Q ++ (Value.slice bp k bc).ownBlock.toList) ++ (Value.slice da k dc).ownBlock.toList) (fun x hx => List.mem_append.2 (.inr hx))); have HB5 := Lib.hid hb5; have HW5 := Lib.hid hown5; clear hown5 hb5 hR5
          refine hK.out _ _ (r12) (fun hHeld => ?_)
          clear hK K
          try simp only [Act.put, List.setIfInBounds_toArray, List.set_cons_zero, List.set_cons_succ]
          refine wpAnyH_take (i := 14) (oi := ⟨some 80, _, _, _, _, _⟩) (v := ?_) rfl (by kernel_rfl) (by kernel_rfl) (by kernel_rfl) (fun _ _ _ h => h) (Or.inl ⟨by rfl, ?_⟩) hHeld ?_
          rotate_left
          · intro w hSw; (try dsimp only at hSw); go_simp; try with_reducible rfl
          try simp only [Act.put, List.setIfInBounds_toArray, List.set_cons_zero, List.set_cons_succ]
          refine wpAnyH_ready (rs := [4, 15]) (by kernel_rfl) (by simp) (AllReadyH.cons (o := ⟨some 70, _, _, _, _, _⟩) rfl (fun K hK => ?_) (AllReadyH.cons (o := ⟨some 81, _, _, _, _, _⟩) rfl (fun K hK => ?_) AllReadyH.nil))
          · go_simp
            refine hK.out _ _ (r12) (fun hHeld => ?_)
            clear hK K
            try simp only [Act.put, List.setIfInBounds_toArray, List.set_cons_zero, List.set_cons_succ]
            refine wpAnyH_ready (rs := [15]) (by kernel_rfl) (by simp) (AllReadyH.cons (o := ⟨some 81, _, _, _, _, _⟩) rfl (fun K hK => ?_) AllReadyH.nil)
            go_simp
            obtain ⟨w6, hw6⟩ : ∃ w6, w5.alloc (.cells #[.int .i64 0, .int .i64 T, .slice da k dc] 69) = w6 := ⟨_, rfl⟩; have hz6 : w6.heap[w5.heap.size]? = some (.cells #[.int .i64 0, .int .i64 T, .slice da k dc] 69 (0, 0)) := (by rw [← hw6]; exact heap_alloc_new w5 _); have hb6 : Below w5.heap.size w5 w6 := (by rw [← hw6]; exact (Below.refl _ _).alloc (Nat.le_refl _) _); rw [hw6]; obtain ⟨z, hz⟩ : ∃ z, w5.heap.size = z := ⟨_, rfl⟩; have hzz : w6.heap.size = z + 1 := (by rw [← hw6, World.size_alloc, hz]); have hR6 := HR5.out.below hb6; have HR6 := Lib.hid hR6; have HZ6 := Lib.hid hz6; have s12 : w6.cell? ⟨R, 12, none⟩ = some (.pointer (some ⟨Kc, 0, none⟩)) := hR6.cells 12; have s13 : w6.cell? ⟨R, 13, none⟩ = some (.slice sp m sc) := (by rw [← HE.out]; exact hR6.cells 13); have HS6 := Lib.hid (HS5.out.below hb6); have HD6 := Lib.hid (HD5.out.below hb6); have HB6 := Lib.hid hb6; rw [hz] at HZ6; clear hw6 hz6 hb6 hR6; (try simp only [hz])
            refine hK.out _ _ (s12) (fun hHeld => ?_)
            clear hK K
            try simp only [Act.put, List.setIfInBounds_toArray, List.set_cons_zero, List.set_cons_succ]
            refine wpAnyH_ready (rs := [16]) (by kernel_rfl) (by simp) (AllReadyH.cons (o := ⟨some 82, _, _, _, _, _⟩) rfl (fun K hK => ?_) AllReadyH.nil)
            refine step_append_lies _ (by rfl) (.tmp 70) (.tmp 81) 61 (by rfl) 0 69 i0 _ 3 40 Tryd.underlying61 hi0 hz0 hz1 hz2 rfl (by omega) (.slice sp m sc) m (evCells evl) (by rfl) (by have := HR6.out.row; rw [HE.out] at this; simp only [HM.out] at this; exact this) ⟨z, 0, none⟩ 1 1 [.int .i64 0, .int .i64 T, .slice da k dc] (by rfl) (by rfl) (World.news_of_block HZ6.out) (by intro u hu; simp at hu; rcases hu with rfl | rfl | rfl <;> rfl) (by omega) (by unfold maxLen; omega) (by omega) (by omega) (z + 1) hzz ?_; intro g cap w7 hown7 hgrow7 hat7 hlt7; have HO7 := Lib.hid hown7; have HG7 := Lib.hid hgrow7; have HAT := Lib.hid hat7; have hR7 := HR6.out.grownR (by rw [HE.out]; exact hgrow7); have t12 : w7.cell? ⟨R, 12, none⟩ = some (.pointer (some ⟨Kc, 0, none⟩)) := cell_at hR7 12; have t13 : w7.cell? ⟨R, 13, none⟩ = some (.slice sp m sc) := (by rw [← HE.out]; exact cell_at hR7 13); have tf13 : w7.frozen? ⟨R, 13, none⟩ = false := frozen_of_row _ _ _ _ _ hR7; have HR7 := Lib.hid hR7; clear hown7 hgrow7 hat7 hR7
            refine hK.out _ _ (t12) (fun hHeld => ?_)
            clear hK K
            try simp only [Act.put, List.setIfInBounds_toArray, List.set_cons_zero, List.set_cons_succ]
            refine wpAnyH_take (i := 17) (oi := ⟨some 83, _, _, _, _, _⟩) (v := ?_) rfl (by kernel_rfl) (by kernel_rfl) (by kernel_rfl) (fun _ _ _ h => h) (Or.inl ⟨by rfl, ?_⟩) hHeld ?_
            rotate_left
            · intro w hSw; (try dsimp only at hSw); go_simp; try with_reducible rfl
            try simp only [Act.put, List.setIfInBounds_toArray, List.set_cons_zero, List.set_cons_succ]
            refine wpAnyH_take (i := 18) (oi := ⟨some 84, _, _, _, _, _⟩) (v := ?_) rfl (by kernel_rfl) (by kernel_rfl) (by kernel_rfl) (fun _ _ _ h => h) (Or.inl ⟨by rfl, ?_⟩) hHeld ?_
            rotate_left
            · intro w hSw; (try dsimp only at hSw); go_simp; try with_reducible rfl
            try simp only [Act.put, List.setIfInBounds_toArray, List.set_cons_zero, List.set_cons_succ]
            refine wpAnyH_ready (rs := [19]) (by kernel_rfl) (by simp) (AllReadyH.cons (o := ⟨none, _, _, _, _, _⟩) rfl (fun K hK => ?_) AllReadyH.nil)
            go_simp
            have u12 : (w7.setCell ⟨R, 13, none⟩ (.slice (some ⟨g, 0, none⟩) (m + 1) cap)).cell? ⟨R, 12, none⟩ = some (.pointer (some ⟨Kc, 0, none⟩)) := cell_at (heap_setCell_same w7 R 13 _ _ _ HR7.out) 12
            refine hK.out _ _ (u12) (fun hHeld => ?_)
            clear hK K
            try simp only [Act.put, List.setIfInBounds_toArray, List.set_cons_zero, List.set_cons_succ]
            refine wpAnyH_done (by kernel_rfl) ?_ _
            refine NoPanic.normal ?_
            obtain ⟨Q8, col8, evl8, HRR⟩ := read6_fin HA.out false HE.out HM.out hm1 HK3.out HO3.out HK4.out HB5.out HW5.out HB6.out HR6.out HS6.out HD6.out HO7.out HG7.out HAT.out hzz
            go_wp2_with fail
            go_meet
            exact ⟨_, _, Q8, col8, evl8, HRR⟩
          · go_simp
            obtain ⟨w6, hw6⟩ : ∃ w6, w5.alloc (.cells #[.int .i64 0, .int .i64 T, .slice da k dc] 69) = w6 := ⟨_, rfl⟩; have hz6 : w6.heap[w5.heap.size]? = some (.cells #[.int .i64 0, .int .i64 T, .slice da k dc] 69 (0, 0)) := (by rw [← hw6]; exact heap_alloc_new w5 _); have hb6 : Below w5.heap.size w5 w6 := (by rw [← hw6]; exact (Below.refl _ _).alloc (Nat.le_refl _) _); rw [hw6]; obtain ⟨z, hz⟩ : ∃ z, w5.heap.size = z := ⟨_, rfl⟩; have hzz : w6.heap.size = z + 1 := (by rw [← hw6, World.size_alloc, hz]); have hR6 := HR5.out.below hb6; have HR6 := Lib.hid hR6; have HZ6 := Lib.hid hz6; have s12 : w6.cell? ⟨R, 12, none⟩ = some (.pointer (some ⟨Kc, 0, none⟩)) := hR6.cells 12; have s13 : w6.cell? ⟨R, 13, none⟩ = some (.slice sp m sc) := (by rw [← HE.out]; exact hR6.cells 13); have HS6 := Lib.hid (HS5.out.below hb6); have HD6 := Lib.hid (HD5.out.below hb6); have HB6 := Lib.hid hb6; rw [hz] at HZ6; clear hw6 hz6 hb6 hR6; (try simp only [hz])
            refine hK.out _ _ (s12) (fun hHeld => ?_)
            clear hK K
            try simp only [Act.put, List.setIfInBounds_toArray, List.set_cons_zero, List.set_cons_succ]
            refine wpAnyH_ready (rs := [4]) (by kernel_rfl) (by simp) (AllReadyH.cons (o := ⟨some 70, _, _, _, _, _⟩) rfl (fun K hK => ?_) AllReadyH.nil)
            go_simp
            refine hK.out _ _ (s12) (fun hHeld => ?_)
            clear hK K
            try simp only [Act.put, List.setIfInBounds_toArray, List.set_cons_zero, List.set_cons_succ]
            refine wpAnyH_ready (rs := [16]) (by kernel_rfl) (by simp) (AllReadyH.cons (o := ⟨some 82, _, _, _, _, _⟩) rfl (fun K hK => ?_) AllReadyH.nil)
            refine step_append_lies _ (by rfl) (.tmp 70) (.tmp 81) 61 (by rfl) 0 69 i0 _ 3 40 Tryd.underlying61 hi0 hz0 hz1 hz2 rfl (by omega) (.slice sp m sc) m (evCells evl) (by rfl) (by have := HR6.out.row; rw [HE.out] at this; simp only [HM.out] at this; exact this) ⟨z, 0, none⟩ 1 1 [.int .i64 0, .int .i64 T, .slice da k dc] (by rfl) (by rfl) (World.news_of_block HZ6.out) (by intro u hu; simp at hu; rcases hu with rfl | rfl | rfl <;> rfl) (by omega) (by unfold maxLen; omega) (by omega) (by omega) (z + 1) hzz ?_; intro g cap w7 hown7 hgrow7 hat7 hlt7; have HO7 := Lib.hid hown7; have HG7 := Lib.hid hgrow7; have HAT := Lib.hid hat7; have hR7 := HR6.out.grownR (by rw [HE.out]; exact hgrow7); have t12 : w7.cell? ⟨R, 12, none⟩ = some (.pointer (some ⟨Kc, 0, none⟩)) := cell_at hR7 12; have t13 : w7.cell? ⟨R, 13, none⟩ = some (.slice sp m sc) := (by rw [← HE.out]; exact cell_at hR7 13); have tf13 : w7.frozen? ⟨R, 13, none⟩ = false := frozen_of_row _ _ _ _ _ hR7; have HR7 := Lib.hid hR7; clear hown7 hgrow7 hat7 hR7
            refine hK.out _ _ (t12) (fun hHeld => ?_)
            clear hK K
            try simp only [Act.put, List.setIfInBounds_toArray, List.set_cons_zero, List.set_cons_succ]
            refine wpAnyH_take (i := 17) (oi := ⟨some 83, _, _, _, _, _⟩) (v := ?_) rfl (by kernel_rfl) (by kernel_rfl) (by kernel_rfl) (fun _ _ _ h => h) (Or.inl ⟨by rfl, ?_⟩) hHeld ?_
            rotate_left
            · intro w hSw; (try dsimp only at hSw); go_simp; try with_reducible rfl
            try simp only [Act.put, List.setIfInBounds_toArray, List.set_cons_zero, List.set_cons_succ]
            refine wpAnyH_take (i := 18) (oi := ⟨some 84, _, _, _, _, _⟩) (v := ?_) rfl (by kernel_rfl) (by kernel_rfl) (by kernel_rfl) (fun _ _ _ h => h) (Or.inl ⟨by rfl, ?_⟩) hHeld ?_
            rotate_left
            · intro w hSw; (try dsimp only at hSw); go_simp; try with_reducible rfl
            try simp only [Act.put, List.setIfInBounds_toArray, List.set_cons_zero, List.set_cons_succ]
            refine wpAnyH_ready (rs := [19]) (by kernel_rfl) (by simp) (AllReadyH.cons (o := ⟨none, _, _, _, _, _⟩) rfl (fun K hK => ?_) AllReadyH.nil)
            go_simp
            have u12 : (w7.setCell ⟨R, 13, none⟩ (.slice (some ⟨g, 0, none⟩) (m + 1) cap)).cell? ⟨R, 12, none⟩ = some (.pointer (some ⟨Kc, 0, none⟩)) := cell_at (heap_setCell_same w7 R 13 _ _ _ HR7.out) 12
            refine hK.out _ _ (u12) (fun hHeld => ?_)
            clear hK K
            try simp only [Act.put, List.setIfInBounds_toArray, List.set_cons_zero, List.set_cons_succ]
            refine wpAnyH_done (by kernel_rfl) ?_ _
            refine NoPanic.normal ?_
            obtain ⟨Q8, col8, evl8, HRR⟩ := read6_fin HA.out false HE.out HM.out hm1 HK3.out HO3.out HK4.out HB5.out HW5.out HB6.out HR6.out HS6.out HD6.out HO7.out HG7.out HAT.out hzz
            go_wp2_with fail
            go_meet
            exact ⟨_, _, Q8, col8, evl8, HRR⟩

    case rest =>
    clear HS3 HO3 HK3 HR3 d0 d2 d14 d12 d13 hHeld
    obtain ⟨g, cap, Q8, col8, evl8, HR⟩ := hcut
    have c14 : wc.cell? ⟨R, 14, none⟩ = some (.int .i64 lf) := by rw [← HLF.out]; exact HR.out.rel.cells 14
    have f14 : wc.frozen? ⟨R, 14, none⟩ = false := frozen_of_row _ _ _ _ _ HR.out.rel.hR
    have c4 : wc.cell? ⟨R, 4, none⟩ = some (.slice a 0 c) := by rw [← HV.out]; exact HR.out.rel.cells 4
    have f4 : wc.frozen? ⟨R, 4, none⟩ = false := frozen_of_row _ _ _ _ _ HR.out.rel.hR
    have FIN : Hid (Stepped w R ln N (RelH Fs R Kc vE Q) (got s false k t) true (.returned (.bool true)) ((wc.setCell ⟨R, 14, none⟩ (.int .i64 (lf - k))).setCell ⟨R, 4, none⟩ (.slice bp k bc))) := by
      rw [← HLF.out]
      exact read_end (d := false) (by rw [HT.out]; exact HR.out) (by rw [HLF.out]; exact hlk) (by rw [HLF.out]; exact hlb.2)
    clear HR
    go_wp2_with fail
    go_ret
    exact FIN.out
  · have g0 : w.cell? ⟨R, 6, none⟩ = some (.pointer (some ⟨p, 0, none⟩)) := by rw [← hp]; exact cj 6
    have g2 : w.cell? ⟨R, 8, none⟩ = some (.int .i64 1) := cj 8
    have g4 : w.cell? ⟨R, 10, none⟩ = some (.slice a 0 c) := by rw [← hv]; exact cj 10
    have g5 : w.cell? ⟨R, 11, none⟩ = some (.bool false) := by rw [← e2]; exact cj 11
    simp only [sd, if_true] at hside
    subst hside
    clear h hx hkc hp hv hE hm hlf cj hk e1 e2 e3 e5 hk0 hkx hT
    go_enter Tryd.func54, Tryd.ntmps54
    go_wp2_with fail
    refine wp_region_noPanic ?_
    refine wp_region_held_drew (S := fun w' => w'.cell? ⟨R, 6, none⟩ = some (.pointer (some ⟨p, 0, none⟩)) ∧ w'.cell? ⟨R, 8, none⟩ = some (.int .i64 1) ∧ w'.cell? ⟨R, 14, none⟩ = some (.int .i64 lf)) (by kernel_rfl) (⟨g0, g2, c14⟩) (fun hHeld => ?_)
    refine wpAnyH_take (i := 0) (oi := ⟨some 48, _, _, _, _, _⟩) (v := ?_) rfl (by kernel_rfl) (by kernel_rfl) (by kernel_rfl) (fun _ _ _ h => h) (Or.inl ⟨by rfl, ?_⟩) hHeld ?_
    rotate_left
    · intro w hSw; (try dsimp only at hSw); go_simp; try with_reducible rfl
    try simp only [Act.put, List.setIfInBounds_toArray, List.set_cons_zero, List.set_cons_succ]
    refine wpAnyH_take (i := 1) (oi := ⟨some 49, _, _, _, _, _⟩) (v := ?_) rfl (by kernel_rfl) (by kernel_rfl) (by kernel_rfl) (fun _ _ _ h => h) (Or.inl ⟨by rfl, ?_⟩) hHeld ?_
    rotate_left
    · intro w hSw; (try dsimp only at hSw); go_simp; try with_reducible rfl
    try simp only [Act.put, List.setIfInBounds_toArray, List.set_cons_zero, List.set_cons_succ]
    refine wpAnyH_take (i := 2) (oi := ⟨some 50, _, _, _, _, _⟩) (v := ?_) rfl (by kernel_rfl) (by kernel_rfl) (by kernel_rfl) (fun _ _ _ h => h) (Or.inl ⟨by rfl, ?_⟩) hHeld ?_
    rotate_left
    · intro w hSw; (try dsimp only at hSw); go_simp; try with_reducible rfl
    try simp only [Act.put, List.setIfInBounds_toArray, List.set_cons_zero, List.set_cons_succ]
    refine wpAnyH_take (i := 3) (oi := ⟨some 51, _, _, _, _, _⟩) (v := ?_) rfl (by kernel_rfl) (by kernel_rfl) (by kernel_rfl) (fun _ _ _ h => h) (Or.inl ⟨by rfl, ?_⟩) hHeld ?_
    rotate_left
    · intro w hSw; (try dsimp only at hSw); go_simp; try with_reducible rfl
    try simp only [Act.put, List.setIfInBounds_toArray, List.set_cons_zero, List.set_cons_succ]
    refine wpAnyH_take (i := 4) (oi := ⟨some 52, _, _, _, _, _⟩) (v := ?_) rfl (by kernel_rfl) (by kernel_rfl) (by kernel_rfl) (fun _ _ _ h => h) (Or.inl ⟨by rfl, ?_⟩) hHeld ?_
    rotate_left
    · intro w hSw; (try dsimp only at hSw); go_simp; try with_reducible rfl
    try simp only [Act.put, List.setIfInBounds_toArray, List.set_cons_zero, List.set_cons_succ]
    refine wpAnyH_take (i := 5) (oi := ⟨some 53, _, _, _, _, _⟩) (v := ?_) rfl (by kernel_rfl) (by kernel_rfl) (by kernel_rfl) (fun _ _ _ h => h) (Or.inl ⟨by rfl, ?_⟩) hHeld ?_
    rotate_left
    · intro w hSw; (try dsimp only at hSw); go_simp; try with_reducible rfl
    try simp only [Act.put, List.setIfInBounds_toArray, List.set_cons_zero, List.set_cons_succ]
    refine wpAnyH_take (i := 6) (oi := ⟨some 54, _, _, _, _, _⟩) (v := ?_) rfl (by kernel_rfl) (by kernel_rfl) (by kernel_rfl) (fun _ _ _ h => h) (Or.inl ⟨by rfl, ?_⟩) hHeld ?_
    rotate_left
    · intro w hSw; (try dsimp only at hSw); go_simp; try with_reducible rfl
    try simp only [Act.put, List.setIfInBounds_toArray, List.set_cons_zero, List.set_cons_succ]
    refine wpAnyH_take (i := 7) (oi := ⟨some 55, _, _, _, _, _⟩) (v := ?_) rfl (by kernel_rfl) (by kernel_rfl) (by kernel_rfl) (fun _ _ _ h => h) (Or.inl ⟨by rfl, ?_⟩) hHeld ?_
    rotate_left
    · intro w hSw; (try dsimp only at hSw); go_simp; try with_reducible rfl
    try simp only [Act.put, List.setIfInBounds_toArray, List.set_cons_zero, List.set_cons_succ]
    refine wpAnyH_take (i := 8) (oi := ⟨some 56, _, _, _, _, _⟩) (v := ?_) rfl (by kernel_rfl) (by kernel_rfl) (by kernel_rfl) (fun _ _ _ h => h) (Or.inl ⟨by rfl, ?_⟩) hHeld ?_
    rotate_left
    · intro w hSw; (try dsimp only at hSw); go_simp; try with_reducible rfl
    try simp only [Act.put, List.setIfInBounds_toArray, List.set_cons_zero, List.set_cons_succ]
    refine wpAnyH_take (i := 9) (oi := ⟨some 57, _, _, _, _, _⟩) (v := ?_) rfl (by kernel_rfl) (by kernel_rfl) (by kernel_rfl) (fun _ _ _ h => h) (Or.inl ⟨by rfl, ?_⟩) hHeld ?_
    rotate_left
    · intro w hSw; (try dsimp only at hSw); go_simp; try with_reducible rfl
    try simp only [Act.put, List.setIfInBounds_toArray, List.set_cons_zero, List.set_cons_succ]
    refine wpAnyH_take (i := 10) (oi := ⟨some 58, _, _, _, _, _⟩) (v := ?_) rfl (by kernel_rfl) (by kernel_rfl) (by kernel_rfl) (fun _ _ _ h => h) (Or.inl ⟨by rfl, ?_⟩) hHeld ?_
    rotate_left
    · intro w hSw; (try dsimp only at hSw); go_simp; try with_reducible rfl
    try simp only [Act.put, List.setIfInBounds_toArray, List.set_cons_zero, List.set_cons_succ]
    refine wpAnyH_take (i := 11) (oi := ⟨some 59, _, _, _, _, _⟩) (v := ?_) rfl (by kernel_rfl) (by kernel_rfl) (by kernel_rfl) (fun _ _ _ h => h) (Or.inl ⟨by rfl, ?_⟩) hHeld ?_
    rotate_left
    · intro w hSw; (try dsimp only at hSw); go_simp; try with_reducible rfl
    try simp only [Act.put, List.setIfInBounds_toArray, List.set_cons_zero, List.set_cons_succ]
    refine wpAnyH_take (i := 12) (oi := ⟨some 60, _, _, _, _, _⟩) (v := ?_) rfl (by kernel_rfl) (by kernel_rfl) (by kernel_rfl) (fun _ _ _ h => h) (Or.inl ⟨by rfl, ?_⟩) hHeld ?_
    rotate_left
    · intro w hSw; (try dsimp only at hSw); go_simp; try with_reducible rfl
    try simp only [Act.put, List.setIfInBounds_toArray, List.set_cons_zero, List.set_cons_succ]
    refine wpAnyH_take (i := 13) (oi := ⟨some 61, _, _, _, _, _⟩) (v := .int .i64 x) rfl (by kernel_rfl) (by kernel_rfl) (by kernel_rfl) (fun _ _ _ h => h) (Or.inl ⟨by rfl, ?_⟩) hHeld ?_
    · intro w hSw; go_simp; have hx := HX.out; repeat' split; all_goals omega
    try simp only [Act.put, List.setIfInBounds_toArray, List.set_cons_zero, List.set_cons_succ]
    refine wpAnyH_ready (rs := [14]) (by kernel_rfl) (by simp) (AllReadyH.cons (o := ⟨some 62, _, _, _, _, _⟩) rfl (fun K hK => ?_) AllReadyH.nil)
    go_simp
    refine (p_read_at (w := w.drewN 1) (F := Fs true) (n := N) (s := s.l true) HPL.out true 1 rfl x ((s.l true).x true) ((s.l true).e true) rfl rfl).mono ?_; rw [HKC.out]; rintro e3 w3 ⟨bp, bc, rfl, hown3, hp3, hk3⟩; obtain ⟨col3, hR3⟩ := read_mid HA.out true (HPT.out _ hp3) hk3 hown3; have HR3 := Lib.hid hR3; have HO3 := Lib.hid hown3; have HK3 := Lib.hid hk3; have d0 : w3.cell? ⟨R, 6, none⟩ = some (.pointer (some ⟨p, 0, none⟩)) := (by rw [← HP.out]; exact hR3.cells 6); have d2 : w3.cell? ⟨R, 8, none⟩ = some (.int .i64 1) := hR3.cells 8; have d14 : w3.cell? ⟨R, 14, none⟩ = some (.int .i64 lf) := (by rw [← HLF.out]; exact hR3.cells 14); have d12 : w3.cell? ⟨R, 12, none⟩ = some (.pointer (some ⟨Kc, 0, none⟩)) := hR3.cells 12; have d13 : w3.cell? ⟨R, 13, none⟩ = some (.slice sp m sc) := (by rw [← HE.out]; exact hR3.cells 13); clear hown3 hp3 hk3 hR3
    refine hK.out _ _ (⟨d0, d2, d14⟩) (fun hHeld => ?_)
    clear hK K
    try simp only [Act.put, List.setIfInBounds_toArray, List.set_cons_zero, List.set_cons_succ]
    refine wpAnyH_take (i := 15) (oi := ⟨some 10, _, _, _, _, _⟩) (v := ?_) rfl (by kernel_rfl) (by kernel_rfl) (by kernel_rfl) (fun _ _ _ h => h) (Or.inl ⟨by rfl, ?_⟩) hHeld ?_
    rotate_left
    · intro w hSw; (try dsimp only at hSw); go_simp; try with_reducible rfl
    try simp only [Act.put, List.setIfInBounds_toArray, List.set_cons_zero, List.set_cons_succ]
    refine wpAnyH_done (by kernel_rfl) ?_ _
    refine NoPanic.normal ?_

    go_upto_region 6 with fail
    have HS3 : Hid (Slc w3 (Q ++ (Value.slice bp k bc).ownBlock.toList) (.slice bp k bc) (((s.l true).x true).take k)) := (Slc.of_own HO3.out).mono (fun x hx => List.mem_append.2 (.inr hx))
    go_cut [] (fun w' => ∃ (g cap : Nat) (Q8 : List Nat) (col8 : Nat → Nat) (evl8 : List (Ev × Value)), Hid (Read6 w w' R ln N s Kc Fs v vE Q true T k (.slice bp k bc) Q8 col8 (.slice (some ⟨g, 0, none⟩) (m + 1) cap) evl8))
    case first =>
      refine wp_region_noPanic ?_
      refine wp_region_held_drew (S := fun w' => w'.cell? ⟨R, 12, none⟩ = some (.pointer (some ⟨Kc, 0, none⟩))) (by kernel_rfl) (d12) (fun hHeld => ?_)
      refine wpAnyH_take (i := 0) (oi := ⟨some 66, _, _, _, _, _⟩) (v := ?_) rfl (by kernel_rfl) (by kernel_rfl) (by kernel_rfl) (fun _ _ _ h => h) (Or.inl ⟨by rfl, ?_⟩) hHeld ?_
      rotate_left
      · intro w hSw; (try dsimp only at hSw); go_simp; try with_reducible rfl
      try simp only [Act.put, List.setIfInBounds_toArray, List.set_cons_zero, List.set_cons_succ]
      refine wpAnyH_take (i := 1) (oi := ⟨some 67, _, _, _, _, _⟩) (v := ?_) rfl (by kernel_rfl) (by kernel_rfl) (by kernel_rfl) (fun _ _ _ h => h) (Or.inl ⟨by rfl, ?_⟩) hHeld ?_
      rotate_left
      · intro w hSw; (try dsimp only at hSw); go_simp; try with_reducible rfl
      try simp only [Act.put, List.setIfInBounds_toArray, List.set_cons_zero, List.set_cons_succ]
      refine wpAnyH_take (i := 2) (oi := ⟨some 68, _, _, _, _, _⟩) (v := ?_) rfl (by kernel_rfl) (by kernel_rfl) (by kernel_rfl) (fun _ _ _ h => h) (Or.inl ⟨by rfl, ?_⟩) hHeld ?_
      rotate_left
      · intro w hSw; (try dsimp only at hSw); go_simp; try with_reducible rfl
      try simp only [Act.put, List.setIfInBounds_toArray, List.set_cons_zero, List.set_cons_succ]
      refine wpAnyH_take (i := 3) (oi := ⟨some 69, _, _, _, _, _⟩) (v := ?_) rfl (by kernel_rfl) (by kernel_rfl) (by kernel_rfl) (fun _ _ _ h => h) (Or.inl ⟨by rfl, ?_⟩) hHeld ?_
      rotate_left
      · intro w hSw; (try dsimp only at hSw); go_simp; try with_reducible rfl
      try simp only [Act.put, List.setIfInBounds_toArray, List.set_cons_zero, List.set_cons_succ]
      refine wpAnyH_take (i := 5) (oi := ⟨some 71, _, _, _, _, _⟩) (v := ?_) rfl (by kernel_rfl) (by kernel_rfl) (by kernel_rfl) (fun _ _ _ h => h) (Or.inl ⟨by rfl, ?_⟩) hHeld ?_
      rotate_left
      · intro w hSw; (try dsimp only at hSw); go_simp; try with_reducible rfl
      try simp only [Act.put, List.setIfInBounds_toArray, List.set_cons_zero, List.set_cons_succ]
      refine wpAnyH_take (i := 6) (oi := ⟨some 72, _, _, _, _, _⟩) (v := ?_) rfl (by kernel_rfl) (by kernel_rfl) (by kernel_rfl) (fun _ _ _ h => h) (Or.inl ⟨by rfl, ?_⟩) hHeld ?_
      rotate_left
      · intro w hSw; (try dsimp only at hSw); go_simp; try with_reducible rfl
      try simp only [Act.put, List.setIfInBounds_toArray, List.set_cons_zero, List.set_cons_succ]
      refine wpAnyH_take (i := 7) (oi := ⟨some 73, _, _, _, _, _⟩) (v := ?_) rfl (by kernel_rfl) (by kernel_rfl) (by kernel_rfl) (fun _ _ _ h => h) (Or.inl ⟨by rfl, ?_⟩) hHeld ?_
      rotate_left
      · intro w hSw; (try dsimp only at hSw); go_simp; try with_reducible rfl
      try simp only [Act.put, List.setIfInBounds_toArray, List.set_cons_zero, List.set_cons_succ]
      refine wpAnyH_take (i := 8) (oi := ⟨some 74, _, _, _, _, _⟩) (v := ?_) rfl (by kernel_rfl) (by kernel_rfl) (by kernel_rfl) (fun _ _ _ h => h) (Or.inl ⟨by rfl, ?_⟩) hHeld ?_
      rotate_left
      · intro w hSw; (try dsimp only at hSw); go_simp; try with_reducible rfl
      try simp only [Act.put, List.setIfInBounds_toArray, List.set_cons_zero, List.set_cons_succ]
      refine wpAnyH_take (i := 9) (oi := ⟨some 75, _, _, _, _, _⟩) (v := ?_) rfl (by kernel_rfl) (by kernel_rfl) (by kernel_rfl) (fun _ _ _ h => h) (Or.inl ⟨by rfl, ?_⟩) hHeld ?_
      rotate_left
      · intro w hSw; (try dsimp only at hSw); go_simp; try with_reducible rfl
      try simp only [Act.put, List.setIfInBounds_toArray, List.set_cons_zero, List.set_cons_succ]
      refine wpAnyH_take (i := 10) (oi := ⟨some 76, _, _, _, _, _⟩) (v := ?_) rfl (by kernel_rfl) (by kernel_rfl) (by kernel_rfl) (fun _ _ _ h => h) (Or.inl ⟨by rfl, ?_⟩) hHeld ?_
      rotate_left
      · intro w hSw; (try dsimp only at hSw); go_simp; try with_reducible rfl
      try simp only [Act.put, List.setIfInBounds_toArray, List.set_cons_zero, List.set_cons_succ]
      refine wpAnyH_take (i := 12) (oi := ⟨some 78, _, _, _, _, _⟩) (v := ?_) rfl (by kernel_rfl) (by kernel_rfl) (by kernel_rfl) (fun _ _ _ h => h) (Or.inl ⟨by rfl, ?_⟩) hHeld ?_
      rotate_left
      · intro w hSw; (try dsimp only at hSw); go_simp; try with_reducible rfl
      try simp only [Act.put, List.setIfInBounds_toArray, List.set_cons_zero, List.set_cons_succ]
      refine wpAnyH_ready (rs := [4, 11]) (by kernel_rfl) (by simp) (AllReadyH.cons (o := ⟨some 70, _, _, _, _, _⟩) rfl (fun K hK => ?_) (AllReadyH.cons (o := ⟨some 77, _, _, _, _, _⟩) rfl (fun K hK => ?_) AllReadyH.nil))
      · go_simp
        refine hK.out _ _ (d12) (fun hHeld => ?_)
        clear hK K
        try simp only [Act.put, List.setIfInBounds_toArray, List.set_cons_zero, List.set_cons_succ]
        refine wpAnyH_ready (rs := [11]) (by kernel_rfl) (by simp) (AllReadyH.cons (o := ⟨some 77, _, _, _, _, _⟩) rfl (fun K hK => ?_) AllReadyH.nil)
        go_simp
        have hRd := HR3.out.below (below_drewN (Below.refl _ _) 1); refine (see_any (w := w3.drewN 1) hRd.hK hRd.ck t).mono ?_; clear hRd; rw [HT.out]; rintro e4 w4 ⟨rfl, hK4, hk4⟩; have hR4 := (HR3.out.below (below_drewN (Below.refl _ _) 1)).clk hk4 hK4 (fun h => by cases h); have HR4 := Lib.hid hR4; have q12 : w4.cell? ⟨R, 12, none⟩ = some (.pointer (some ⟨Kc, 0, none⟩)) := hR4.cells 12; have q13 : w4.cell? ⟨R, 13, none⟩ = some (.slice sp m sc) := (by rw [← HE.out]; exact hR4.cells 13); have HS4 := Lib.hid ((HR3.out.below (below_drewN (Below.refl _ _) 1)).keepK hk4 (HS3.out.below (below_drewN (Below.refl _ _) 1))); have HK4 := Lib.hid hk4; clear hK4 hk4 hR4
        refine hK.out _ _ (q12) (fun hHeld => ?_)
        clear hK K
        try simp only [Act.put, List.setIfInBounds_toArray, List.set_cons_zero, List.set_cons_succ]
        refine wpAnyH_ready (rs := [13]) (by kernel_rfl) (by simp) (AllReadyH.cons (o := ⟨some 79, _, _, _, _, _⟩) rfl (fun K hK => ?_) AllReadyH.nil)
        go_simp
        refine (clone_any HS4.out (by rw [HXL.out]; omega)).mono ?_; rw [HXL.out]; rintro e5 w5 ⟨dv, rfl, hown5, hb5⟩; obtain ⟨da, dc, rfl⟩ := own_form hown5; have hR5 := (HR4.out.below hb5).more w4.heap.size HR4.out.lt _ (fun x hx => row_lt hown5 x hx); have HR5 := Lib.hid hR5; have r12 : w5.cell? ⟨R, 12, none⟩ = some (.pointer (some ⟨Kc, 0, none⟩)) := hR5.cells 12; have r13 : w5.cell? ⟨R, 13, none⟩ = some (.slice sp m sc) := (by rw [← HE.out]; exact hR5.cells 13); have HS5 := Lib.hid ((HS4.out.below hb5).mono (Q' := (Q ++ (Value.slice bp k bc).ownBlock.toList) ++ (Value.slice da k dc).ownBlock.toList) (fun x hx => List.mem_append.2 (.inl hx))); have HD5 := Lib.hid ((Slc.of_own hown5).mono (Q' := (Q ++ (Value.slice bp k bc).ownBlock.toList) ++ (Value.slice da k dc).ownBlock.toList) (fun x hx => List.mem_append.2 (.inr hx))); have HB5 := Lib.hid hb5; have HW5 := Lib.hid hown5; clear hown5 hb5 hR5
        refine hK.out _ _ (r12) (fun hHeld => ?_)
        clear hK K
        try simp only [Act.put, List.setIfInBounds_toArray, List.set_cons_zero, List.set_cons_succ]
        refine wpAnyH_take (i := 14) (oi := ⟨some 80, _, _, _, _, _⟩) (v := ?_) rfl (by kernel_rfl) (by kernel_rfl) (by kernel_rfl) (fun _ _ _ h => h) (Or.inl ⟨by rfl, ?_⟩) hHeld ?_
        rotate_left
        · intro w hSw; (try dsimp only at hSw); go_simp; try with_reducible rfl
        try simp only [Act.put, List.setIfInBounds_toArray, List.set_cons_zero, List.set_cons_succ]
        refine wpAnyH_ready (rs := [15]) (by kernel_rfl) (by simp) (AllReadyH.cons (o := ⟨some 81, _, _, _, _, _⟩) rfl (fun K hK => ?_) AllReadyH.nil)
        go_simp
        obtain ⟨w6, hw6⟩ : ∃ w6, w5.alloc (.cells #[.int .i64 1, .int .i64 T, .slice da k dc] 69) = w6 := ⟨_, rfl⟩; have hz6 : w6.heap[w5.heap.size]? = some (.cells #[.int .i64 1, .int .i64 T, .slice da k dc] 69 (0, 0)) := (by rw [← hw6]; exact heap_alloc_new w5 _); have hb6 : Below w5.heap.size w5 w6 := (by rw [← hw6]; exact (Below.refl _ _).alloc (Nat.le_refl _) _); rw [hw6]; obtain ⟨z, hz⟩ : ∃ z, w5.heap.size = z := ⟨_, rfl⟩; have hzz : w6.heap.size = z + 1 := (by rw [← hw6, World.size_alloc, hz]); have hR6 := HR5.out.below hb6; have HR6 := Lib.hid hR6; have HZ6 := Lib.hid hz6; have s12 : w6.cell? ⟨R, 12, none⟩ = some (.pointer (some ⟨Kc, 0, none⟩)) := hR6.cells 12; have s13 : w6.cell? ⟨R, 13, none⟩ = some (.slice sp m sc) := (by rw [← HE.out]; exact hR6.cells 13); have HS6 := Lib.hid (HS5.out.below hb6); have HD6 := Lib.hid (HD5.out.below hb6); have HB6 := Lib.hid hb6; rw [hz] at HZ6; clear hw6 hz6 hb6 hR6; (try simp only [hz])
        refine hK.out _ _ (s12) (fun hHeld => ?_)
        clear hK K
        try simp only [Act.put, List.setIfInBounds_toArray, List.set_cons_zero, List.set_cons_succ]
        refine wpAnyH_ready (rs := [16]) (by kernel_rfl) (by simp) (AllReadyH.cons (o := ⟨some 82, _, _, _, _, _⟩) rfl (fun K hK => ?_) AllReadyH.nil)
        refine step_append_lies _ (by rfl) (.tmp 70) (.tmp 81) 61 (by rfl) 0 69 i0 _ 3 40 Tryd.underlying61 hi0 hz0 hz1 hz2 rfl (by omega) (.slice sp m sc) m (evCells evl) (by rfl) (by have := HR6.out.row; rw [HE.out] at this; simp only [HM.out] at this; exact this) ⟨z, 0, none⟩ 1 1 [.int .i64 1, .int .i64 T, .slice da k dc] (by rfl) (by rfl) (World.news_of_block HZ6.out) (by intro u hu; simp at hu; rcases hu with rfl | rfl | rfl <;> rfl) (by omega) (by unfold maxLen; omega) (by omega) (by omega) (z + 1) hzz ?_; intro g cap w7 hown7 hgrow7 hat7 hlt7; have HO7 := Lib.hid hown7; have HG7 := Lib.hid hgrow7; have HAT := Lib.hid hat7; have hR7 := HR6.out.grownR (by rw [HE.out]; exact hgrow7); have t12 : w7.cell? ⟨R, 12, none⟩ = some (.pointer (some ⟨Kc, 0, none⟩)) := cell_at hR7 12; have t13 : w7.cell? ⟨R, 13, none⟩ = some (.slice sp m sc) := (by rw [← HE.out]; exact cell_at hR7 13); have tf13 : w7.frozen? ⟨R, 13, none⟩ = false := frozen_of_row _ _ _ _ _ hR7; have HR7 := Lib.hid hR7; clear hown7 hgrow7 hat7 hR7
        refine hK.out _ _ (t12) (fun hHeld => ?_)
        clear hK K
        try simp only [Act.put, List.setIfInBounds_toArray, List.set_cons_zero, List.set_cons_succ]
        refine wpAnyH_take (i := 17) (oi := ⟨some 83, _, _, _, _, _⟩) (v := ?_) rfl (by kernel_rfl) (by kernel_rfl) (by kernel_rfl) (fun _ _ _ h => h) (Or.inl ⟨by rfl, ?_⟩) hHeld ?_
        rotate_left
        · intro w hSw; (try dsimp only at hSw); go_simp; try with_reducible rfl
        try simp only [Act.put, List.setIfInBounds_toArray, List.set_cons_zero, List.set_cons_succ]
        refine wpAnyH_take (i := 18) (oi := ⟨some 84, _, _, _, _, _⟩) (v := ?_) rfl (by kernel_rfl) (by kernel_rfl) (by kernel_rfl) (fun _ _ _ h => h) (Or.inl ⟨by rfl, ?_⟩) hHeld ?_
        rotate_left
        · intro w hSw; (try dsimp only at hSw); go_simp; try with_reducible rfl
        try simp only [Act.put, List.setIfInBounds_toArray, List.set_cons_zero, List.set_cons_succ]
        refine wpAnyH_ready (rs := [19]) (by kernel_rfl) (by simp) (AllReadyH.cons (o := ⟨none, _, _, _, _, _⟩) rfl (fun K hK => ?_) AllReadyH.nil)
        go_simp
        have u12 : (w7.setCell ⟨R, 13, none⟩ (.slice (some ⟨g, 0, none⟩) (m + 1) cap)).cell? ⟨R, 12, none⟩ = some (.pointer (some ⟨Kc, 0, none⟩)) := cell_at (heap_setCell_same w7 R 13 _ _ _ HR7.out) 12
        refine hK.out _ _ (u12) (fun hHeld => ?_)
        clear hK K
        try simp only [Act.put, List.setIfInBounds_toArray, List.set_cons_zero, List.set_cons_succ]
        refine wpAnyH_done (by kernel_rfl) ?_ _
        refine NoPanic.normal ?_
        obtain ⟨Q8, col8, evl8, HRR⟩ := read6_fin HA.out true HE.out HM.out hm1 HK3.out HO3.out HK4.out HB5.out HW5.out HB6.out HR6.out HS6.out HD6.out HO7.out HG7.out HAT.out hzz
        go_wp2_with fail
        go_meet
        exact ⟨_, _, Q8, col8, evl8, HRR⟩
      · go_simp
        have hRd := HR3.out.below (below_drewN (Below.refl _ _) 1); refine (see_any (w := w3.drewN 1) hRd.hK hRd.ck t).mono ?_; clear hRd; rw [HT.out]; rintro e4 w4 ⟨rfl, hK4, hk4⟩; have hR4 := (HR3.out.below (below_drewN (Below.refl _ _) 1)).clk hk4 hK4 (fun h => by cases h); have HR4 := Lib.hid hR4; have q12 : w4.cell? ⟨R, 12, none⟩ = some (.pointer (some ⟨Kc, 0, none⟩)) := hR4.cells 12; have q13 : w4.cell? ⟨R, 13, none⟩ = some (.slice sp m sc) := (by rw [← HE.out]; exact hR4.cells 13); have HS4 := Lib.hid ((HR3.out.below (below_drewN (Below.refl _ _) 1)).keepK hk4 (HS3.out.below (below_drewN (Below.refl _ _) 1))); have HK4 := Lib.hid hk4; clear hK4 hk4 hR4
        refine hK.out _ _ (q12) (fun hHeld => ?_)
        clear hK K
        try simp only [Act.put, List.setIfInBounds_toArray, List.set_cons_zero, List.set_cons_succ]
        refine wpAnyH_ready (rs := [4, 13]) (by kernel_rfl) (by simp) (AllReadyH.cons (o := ⟨some 70, _, _, _, _, _⟩) rfl (fun K hK => ?_) (AllReadyH.cons (o := ⟨some 79, _, _, _, _, _⟩) rfl (fun K hK => ?_) AllReadyH.nil))
        · go_simp
          refine hK.out _ _ (q12) (fun hHeld => ?_)
          clear hK K
          try simp only [Act.put, List.setIfInBounds_toArray, List.set_cons_zero, List.set_cons_succ]
          refine wpAnyH_ready (rs := [13]) (by kernel_rfl) (by simp) (AllReadyH.cons (o := ⟨some 79, _, _, _, _, _⟩) rfl (fun K hK => ?_) AllReadyH.nil)
          go_simp
          refine (clone_any HS4.out (by rw [HXL.out]; omega)).mono ?_; rw [HXL.out]; rintro e5 w5 ⟨dv, rfl, hown5, hb5⟩; obtain ⟨da, dc, rfl⟩ := own_form hown5; have hR5 := (HR4.out.below hb5).more w4.heap.size HR4.out.lt _ (fun x hx => row_lt hown5 x hx); have HR5 := Lib.hid hR5; have r12 : w5.cell? ⟨R, 12, none⟩ = some (.pointer (some ⟨Kc, 0, none⟩)) := hR5.cells 12; have r13 : w5.cell? ⟨R, 13, none⟩ = some (.slice sp m sc) := (by rw [← HE.out]; exact hR5.cells 13); have HS5 := Lib.hid ((HS4.out.below hb5).mono (Q' := (Q ++ (Value.slice bp k bc).ownBlock.toList) ++ (Value.slice da k dc).ownBlock.toList) (fun x hx => List.mem_append.2 (.inl hx))); have HD5 := Lib.hid ((Slc.of_own hown5).mono (Q' := (Q ++ (Value.slice bp k bc).ownBlock.toList) ++ (Value.slice da k dc).ownBlock.toList) (fun x hx => List.mem_append.2 (.inr hx))); have HB5 := Lib.hid hb5; have HW5 := Lib.hid hown5; clear hown5 hb5 hR5
          refine hK.out _ _ (r12) (fun hHeld => ?_)
          clear hK K
          try simp only [Act.put, List.setIfInBounds_toArray, List.set_cons_zero, List.set_cons_succ]
          refine wpAnyH_take (i := 14) (oi := ⟨some 80, _, _, _, _, _⟩) (v := ?_) rfl (by kernel_rfl) (by kernel_rfl) (by kernel_rfl) (fun _ _ _ h => h) (Or.inl ⟨by rfl, ?_⟩) hHeld ?_
          rotate_left
          · intro w hSw; (try dsimp only at hSw); go_simp; try with_reducible rfl
          try simp only [Act.put, List.setIfInBounds_toArray, List.set_cons_zero, List.set_cons_succ]
          refine wpAnyH_ready (rs := [15]) (by kernel_rfl) (by simp) (AllReadyH.cons (o := ⟨some 81, _, _, _, _, _⟩) rfl (fun K hK => ?_) AllReadyH.nil)
          go_simp
          obtain ⟨w6, hw6⟩ : ∃ w6, w5.alloc (.cells #[.int .i64 1, .int .i64 T, .slice da k dc] 69) = w6 := ⟨_, rfl⟩; have hz6 : w6.heap[w5.heap.size]? = some (.cells #[.int .i64 1, .int .i64 T, .slice da k dc] 69 (0, 0)) := (by rw [← hw6]; exact heap_alloc_new w5 _); have hb6 : Below w5.heap.size w5 w6 := (by rw [← hw6]; exact (Below.refl _ _).alloc (Nat.le_refl _) _); rw [hw6]; obtain ⟨z, hz⟩ : ∃ z, w5.heap.size = z := ⟨_, rfl⟩; have hzz : w6.heap.size = z + 1 := (by rw [← hw6, World.size_alloc, hz]); have hR6 := HR5.out.below hb6; have HR6 := Lib.hid hR6; have HZ6 := Lib.hid hz6; have s12 : w6.cell? ⟨R, 12, none⟩ = some (.pointer (some ⟨Kc, 0, none⟩)) := hR6.cells 12; have s13 : w6.cell? ⟨R, 13, none⟩ = some (.slice sp m sc) := (by rw [← HE.out]; exact hR6.cells 13); have HS6 := Lib.hid (HS5.out.below hb6); have HD6 := Lib.hid (HD5.out.below hb6); have HB6 := Lib.hid hb6; rw [hz] at HZ6; clear hw6 hz6 hb6 hR6; (try simp only [hz])
          refine hK.out _ _ (s12) (fun hHeld => ?_)
          clear hK K
          try simp only [Act.put, List.setIfInBounds_toArray, List.set_cons_zero, List.set_cons_succ]
          refine wpAnyH_ready (rs := [16]) (by kernel_rfl) (by simp) (AllReadyH.cons (o := ⟨some 82, _, _, _, _, _⟩) rfl (fun K hK => ?_) AllReadyH.nil)
          refine step_append_lies _ (by rfl) (.tmp 70) (.tmp 81) 61 (by rfl) 0 69 i0 _ 3 40 Tryd.underlying61 hi0 hz0 hz1 hz2 rfl (by omega) (.slice sp m sc) m (evCells evl) (by rfl) (by have := HR6.out.row; rw [HE.out] at this; simp only [HM.out] at this; exact this) ⟨z, 0, none⟩ 1 1 [.int .i64 1, .int .i64 T, .slice da k dc] (by rfl) (by rfl) (World.news_of_block HZ6.out) (by intro u hu; simp at hu; rcases hu with rfl | rfl | rfl <;> rfl) (by omega) (by unfold maxLen; omega) (by omega) (by omega) (z + 1) hzz ?_; intro g cap w7 hown7 hgrow7 hat7 hlt7; have HO7 := Lib.hid hown7; have HG7 := Lib.hid hgrow7; have HAT := Lib.hid hat7; have hR7 := HR6.out.grownR (by rw [HE.out]; exact hgrow7); have t12 : w7.cell? ⟨R, 12, none⟩ = some (.pointer (some ⟨Kc, 0, none⟩)) := cell_at hR7 12; have t13 : w7.cell? ⟨R, 13, none⟩ = some (.slice sp m sc) := (by rw [← HE.out]; exact cell_at hR7 13); have tf13 : w7.frozen? ⟨R, 13, none⟩ = false := frozen_of_row _ _ _ _ _ hR7; have HR7 := Lib.hid hR7; clear hown7 hgrow7 hat7 hR7
          refine hK.out _ _ (t12) (fun hHeld => ?_)
          clear hK K
          try simp only [Act.put, List.setIfInBounds_toArray, List.set_cons_zero, List.set_cons_succ]
          refine wpAnyH_take (i := 17) (oi := ⟨some 83, _, _, _, _, _⟩) (v := ?_) rfl (by kernel_rfl) (by kernel_rfl) (by kernel_rfl) (fun _ _ _ h => h) (Or.inl ⟨by rfl, ?_⟩) hHeld ?_
          rotate_left
          · intro w hSw; (try dsimp only at hSw); go_simp; try with_reducible rfl
          try simp only [Act.put, List.setIfInBounds_toArray, List.set_cons_zero, List.set_cons_succ]
          refine wpAnyH_take (i := 18) (oi := ⟨some 84, _, _, _, _, _⟩) (v := ?_) rfl (by kernel_rfl) (by kernel_rfl) (by kernel_rfl) (fun _ _ _ h => h) (Or.inl ⟨by rfl, ?_⟩) hHeld ?_
          rotate_left
          · intro w hSw; (try dsimp only at hSw); go_simp; try with_reducible rfl
          try simp only [Act.put, List.setIfInBounds_toArray, List.set_cons_zero, List.set_cons_succ]
          refine wpAnyH_ready (rs := [19]) (by kernel_rfl) (by simp) (AllReadyH.cons (o := ⟨none, _, _, _, _, _⟩) rfl (fun K hK => ?_) AllReadyH.nil)
          go_simp
          have u12 : (w7.setCell ⟨R, 13, none⟩ (.slice (some ⟨g, 0, none⟩) (m + 1) cap)).cell? ⟨R, 12, none⟩ = some (.pointer (some ⟨Kc, 0, none⟩)) := cell_at (heap_setCell_same w7 R 13 _ _ _ HR7.out) 12
          refine hK.out _ _ (u12) (fun hHeld => ?_)
          clear hK K
          try simp only [Act.put, List.setIfInBounds_toArray, List.set_cons_zero, List.set_cons_succ]
          refine wpAnyH_done (by kernel_rfl) ?_ _
          refine NoPanic.normal ?_
          obtain ⟨Q8, col8, evl8, HRR⟩ := read6_fin HA.out true HE.out HM.out hm1 HK3.out HO3.out HK4.out HB5.out HW5.out HB6.out HR6.out HS6.out HD6.out HO7.out HG7.out HAT.out hzz
          go_wp2_with fail
          go_meet
          exact ⟨_, _, Q8, col8, evl8, HRR⟩
        · go_simp
          refine (clone_any HS4.out (by rw [HXL.out]; omega)).mono ?_; rw [HXL.out]; rintro e5 w5 ⟨dv, rfl, hown5, hb5⟩; obtain ⟨da, dc, rfl⟩ := own_form hown5; have hR5 := (HR4.out.below hb5).more w4.heap.size HR4.out.lt _ (fun x hx => row_lt hown5 x hx); have HR5 := Lib.hid hR5; have r12 : w5.cell? ⟨R, 12, none⟩ = some (.pointer (some ⟨Kc, 0, none⟩)) := hR5.cells 12; have r13 : w5.cell? ⟨R, 13, none⟩ = some (.slice sp m sc) := (by rw [← HE.out]; exact hR5.cells 13); have HS5 := Lib.hid ((HS4.out.below hb5).mono (Q' := (Q ++ (Value.slice bp k bc).ownBlock.toList) ++ (Value.slice da k dc).ownBlock.toList) (fun x hx => List.mem_append.2 (.inl hx))); have HD5 := Lib.hid ((Slc.of_own hown5).mono (Q' := (Q ++ (Value.slice bp k bc).ownBlock.toList) ++ (Value.slice da k dc).ownBlock.toList) (fun x hx => List.mem_append.2 (.inr hx))); have HB5 := Lib.hid hb5; have HW5 := Lib.hid hown5; clear hown5 hb5 hR5
          refine hK.out _ _ (r12) (fun hHeld => ?_)
          clear hK K
          try simp only [Act.put, List.setIfInBounds_toArray, List.set_cons_zero, List.set_cons_succ]
          refine wpAnyH_take (i := 14) (oi := ⟨some 80, _, _, _, _, _⟩) (v := ?_) rfl (by kernel_rfl) (by kernel_rfl) (by kernel_rfl) (fun _ _ _ h => h) (Or.inl ⟨by rfl, ?_⟩) hHeld ?_
          rotate_left
          · intro w hSw; (try dsimp only at hSw); go_simp; try with_reducible rfl
          try simp only [Act.put, List.setIfInBounds_toArray, List.set_cons_zero, List.set_cons_succ]
          refine wpAnyH_ready (rs := [4, 15]) (by kernel_rfl) (by simp) (AllReadyH.cons (o := ⟨some 70, _, _, _, _, _⟩) rfl (fun K hK => ?_) (AllReadyH.cons (o := ⟨some 81, _, _, _, _, _⟩) rfl (fun K hK => ?_) AllReadyH.nil))
          · go_simp
            refine hK.out _ _ (r12) (fun hHeld => ?_)
            clear hK K
            try simp only [Act.put, List.setIfInBounds_toArray, List.set_cons_zero, List.set_cons_succ]
            refine wpAnyH_ready (rs := [15]) (by kernel_rfl) (by simp) (AllReadyH.cons (o := ⟨some 81, _, _, _, _, _⟩) rfl (fun K hK => ?_) AllReadyH.nil)
            go_simp
            obtain ⟨w6, hw6⟩ : ∃ w6, w5.alloc (.cells #[.int .i64 1, .int .i64 T, .slice da k dc] 69) = w6 := ⟨_, rfl⟩; have hz6 : w6.heap[w5.heap.size]? = some (.cells #[.int .i64 1, .int .i64 T, .slice da k dc] 69 (0, 0)) := (by rw [← hw6]; exact heap_alloc_new w5 _); have hb6 : Below w5.heap.size w5 w6 := (by rw [← hw6]; exact (Below.refl _ _).alloc (Nat.le_refl _) _); rw [hw6]; obtain ⟨z, hz⟩ : ∃ z, w5.heap.size = z := ⟨_, rfl⟩; have hzz : w6.heap.size = z + 1 := (by rw [← hw6, World.size_alloc, hz]); have hR6 := HR5.out.below hb6; have HR6 := Lib.hid hR6; have HZ6 := Lib.hid hz6; have s12 : w6.cell? ⟨R, 12, none⟩ = some (.pointer (some ⟨Kc, 0, none⟩)) := hR6.cells 12; have s13 : w6.cell? ⟨R, 13, none⟩ = some (.slice sp m sc) := (by rw [← HE.out]; exact hR6.cells 13); have HS6 := Lib.hid (HS5.out.below hb6); have HD6 := Lib.hid (HD5.out.below hb6); have HB6 := Lib.hid hb6; rw [hz] at HZ6; clear hw6 hz6 hb6 hR6; (try simp only [hz])
            refine hK.out _ _ (s12) (fun hHeld => ?_)
            clear hK K
            try simp only [Act.put, List.setIfInBounds_toArray, List.set_cons_zero, List.set_cons_succ]
            refine wpAnyH_ready (rs := [16]) (by kernel_rfl) (by simp) (AllReadyH.cons (o := ⟨some 82, _, _, _, _, _⟩) rfl (fun K hK => ?_) AllReadyH.nil)
            refine step_append_lies _ (by rfl) (.tmp 70) (.tmp 81) 61 (by rfl) 0 69 i0 _ 3 40 Tryd.underlying61 hi0 hz0 hz1 hz2 rfl (by omega) (.slice sp m sc) m (evCells evl) (by rfl) (by have := HR6.out.row; rw [HE.out] at this; simp only [HM.out] at this; exact this) ⟨z, 0, none⟩ 1 1 [.int .i64 1, .int .i64 T, .slice da k dc] (by rfl) (by rfl) (World.news_of_block HZ6.out) (by intro u hu; simp at hu; rcases hu with rfl | rfl | rfl <;> rfl) (by omega) (by unfold maxLen; omega) (by omega) (by omega) (z + 1) hzz ?_; intro g cap w7 hown7 hgrow7 hat7 hlt7; have HO7 := Lib.hid hown7; have HG7 := Lib.hid hgrow7; have HAT := Lib.hid hat7; have hR7 := HR6.out.grownR (by rw [HE.out]; exact hgrow7); have t12 : w7.cell? ⟨R, 12, none⟩ = some (.pointer (some ⟨Kc, 0, none⟩)) := cell_at hR7 12; have t13 : w7.cell? ⟨R, 13, none⟩ = some (.slice sp m sc) := (by rw [← HE.out]; exact cell_at hR7 13); have tf13 : w7.frozen? ⟨R, 13, none⟩ = false := frozen_of_row _ _ _ _ _ hR7; have HR7 := Lib.hid hR7; clear hown7 hgrow7 hat7 hR7
            refine hK.out _ _ (t12) (fun hHeld => ?_)
            clear hK K
            try simp only [Act.put, List.setIfInBounds_toArray, List.set_cons_zero, List.set_cons_succ]
            refine wpAnyH_take (i := 17) (oi := ⟨some 83, _, _, _, _, _⟩) (v := ?_) rfl (by kernel_rfl) (by kernel_rfl) (by kernel_rfl) (fun _ _ _ h => h) (Or.inl ⟨by rfl, ?_⟩) hHeld ?_
            rotate_left
            · intro w hSw; (try dsimp only at hSw); go_simp; try with_reducible rfl
            try simp only [Act.put, List.setIfInBounds_toArray, List.set_cons_zero, List.set_cons_succ]
            refine wpAnyH_take (i := 18) (oi := ⟨some 84, _, _, _, _, _⟩) (v := ?_) rfl (by kernel_rfl) (by kernel_rfl) (by kernel_rfl) (fun _ _ _ h => h) (Or.inl ⟨by rfl, ?_⟩) hHeld ?_
            rotate_left
            · intro w hSw; (try dsimp only at hSw); go_simp; try with_reducible rfl
            try simp only [Act.put, List.setIfInBounds_toArray, List.set_cons_zero, List.set_cons_succ]
            refine wpAnyH_ready (rs := [19]) (by kernel_rfl) (by simp) (AllReadyH.cons (o := ⟨none, _, _, _, _, _⟩) rfl (fun K hK => ?_) AllReadyH.nil)
            go_simp
            have u12 : (w7.setCell ⟨R, 13, none⟩ (.slice (some ⟨g, 0, none⟩) (m + 1) cap)).cell? ⟨R, 12, none⟩ = some (.pointer (some ⟨Kc, 0, none⟩)) := cell_at (heap_setCell_same w7 R 13 _ _ _ HR7.out) 12
            refine hK.out _ _ (u12) (fun hHeld => ?_)
            clear hK K
            try simp only [Act.put, List.setIfInBounds_toArray, List.set_cons_zero, List.set_cons_succ]
            refine wpAnyH_done (by kernel_rfl) ?_ _
            refine NoPanic.normal ?_
            obtain ⟨Q8, col8, evl8, HRR⟩ := read6_fin HA.out true HE.out HM.out hm1 HK3.out HO3.out HK4.out HB5.out HW5.out HB6.out HR6.out HS6.out HD6.out HO7.out HG7.out HAT.out hzz
            go_wp2_with fail
            go_meet
            exact ⟨_, _, Q8, col8, evl8, HRR⟩
          · go_simp
            obtain ⟨w6, hw6⟩ : ∃ w6, w5.alloc (.cells #[.int .i64 1, .int .i64 T, .slice da k dc] 69) = w6 := ⟨_, rfl⟩; have hz6 : w6.heap[w5.heap.size]? = some (.cells #[.int .i64 1, .int .i64 T, .slice da k dc] 69 (0, 0)) := (by rw [← hw6]; exact heap_alloc_new w5 _); have hb6 : Below w5.heap.size w5 w6 := (by rw [← hw6]; exact (Below.refl _ _).alloc (Nat.le_refl _) _); rw [hw6]; obtain ⟨z, hz⟩ : ∃ z, w5.heap.size = z := ⟨_, rfl⟩; have hzz : w6.heap.size = z + 1 := (by rw [← hw6, World.size_alloc, hz]); have hR6 := HR5.out.below hb6; have HR6 := Lib.hid hR6; have HZ6 := Lib.hid hz6; have s12 : w6.cell? ⟨R, 12, none⟩ = some (.pointer (some ⟨Kc, 0, none⟩)) := hR6.cells 12; have s13 : w6.cell? ⟨R, 13, none⟩ = some (.slice sp m sc) := (by rw [← HE.out]; exact hR6.cells 13); have HS6 := Lib.hid (HS5.out.below hb6); have HD6 := Lib.hid (HD5.out.below hb6); have HB6 := Lib.hid hb6; rw [hz] at HZ6; clear hw6 hz6 hb6 hR6; (try simp only [hz])
            refine hK.out _ _ (s12) (fun hHeld => ?_)
            clear hK K
            try simp only [Act.put, List.setIfInBounds_toArray, List.set_cons_zero, List.set_cons_succ]
            refine wpAnyH_ready (rs := [4]) (by kernel_rfl) (by simp) (AllReadyH.cons (o := ⟨some 70, _, _, _, _, _⟩) rfl (fun K hK => ?_) AllReadyH.nil)
            go_simp
            refine hK.out _ _ (s12) (fun hHeld => ?_)
            clear hK K
            try simp only [Act.put, List.setIfInBounds_toArray, List.set_cons_zero, List.set_cons_succ]
            refine wpAnyH_ready (rs := [16]) (by kernel_rfl) (by simp) (AllReadyH.cons (o := ⟨some 82, _, _, _, _, _⟩) rfl (fun K hK => ?_) AllReadyH.nil)
            refine step_append_lies _ (by rfl) (.tmp 70) (.tmp 81) 61 (by rfl) 0 69 i0 _ 3 40 Tryd.underlying61 hi0 hz0 hz1 hz2 rfl (by omega) (.slice sp m sc) m (evCells evl) (by rfl) (by have := HR6.out.row; rw [HE.out] at this; simp only [HM.out] at this; exact this) ⟨z, 0, none⟩ 1 1 [.int .i64 1, .int .i64 T, .slice da k dc] (by rfl) (by rfl) (World.news_of_block HZ6.out) (by intro u hu; simp at hu; rcases hu with rfl | rfl | rfl <;> rfl) (by omega) (by unfold maxLen; omega) (by omega) (by omega) (z + 1) hzz ?_; intro g cap w7 hown7 hgrow7 hat7 hlt7; have HO7 := Lib.hid hown7; have HG7 := Lib.hid hgrow7; have HAT := Lib.hid hat7; have hR7 := HR6.out.grownR (by rw [HE.out]; exact hgrow7); have t12 : w7.cell? ⟨R, 12, none⟩ = some (.pointer (some ⟨Kc, 0, none⟩)) := cell_at hR7 12; have t13 : w7.cell? ⟨R, 13, none⟩ = some (.slice sp m sc) := (by rw [← HE.out]; exact cell_at hR7 13); have tf13 : w7.frozen? ⟨R, 13, none⟩ = false := frozen_of_row _ _ _ _ _ hR7; have HR7 := Lib.hid hR7; clear hown7 hgrow7 hat7 hR7
            refine hK.out _ _ (t12) (fun hHeld => ?_)
            clear hK K
            try simp only [Act.put, List.setIfInBounds_toArray, List.set_cons_zero, List.set_cons_succ]
            refine wpAnyH_take (i := 17) (oi := ⟨some 83, _, _, _, _, _⟩) (v := ?_) rfl (by kernel_rfl) (by kernel_rfl) (by kernel_rfl) (fun _ _ _ h => h) (Or.inl ⟨by rfl, ?_⟩) hHeld ?_
            rotate_left
            · intro w hSw; (try dsimp only at hSw); go_simp; try with_reducible rfl
            try simp only [Act.put, List.setIfInBounds_toArray, List.set_cons_zero, List.set_cons_succ]
            refine wpAnyH_take (i := 18) (oi := ⟨some 84, _, _, _, _, _⟩) (v := ?_) rfl (by kernel_rfl) (by kernel_rfl) (by kernel_rfl) (fun _ _ _ h => h) (Or.inl ⟨by rfl, ?_⟩) hHeld ?_
            rotate_left
            · intro w hSw; (try dsimp only at hSw); go_simp; try with_reducible rfl
            try simp only [Act.put, List.setIfInBounds_toArray, List.set_cons_zero, List.set_cons_succ]
            refine wpAnyH_ready (rs := [19]) (by kernel_rfl) (by simp) (AllReadyH.cons (o := ⟨none, _, _, _, _, _⟩) rfl (fun K hK => ?_) AllReadyH.nil)
            go_simp
            have u12 : (w7.setCell ⟨R, 13, none⟩ (.slice (some ⟨g, 0, none⟩) (m + 1) cap)).cell? ⟨R, 12, none⟩ = some (.pointer (some ⟨Kc, 0, none⟩)) := cell_at (heap_setCell_same w7 R 13 _ _ _ HR7.out) 12
            refine hK.out _ _ (u12) (fun hHeld => ?_)
            clear hK K
            try simp only [Act.put, List.setIfInBounds_toArray, List.set_cons_zero, List.set_cons_succ]
            refine wpAnyH_done (by kernel_rfl) ?_ _
            refine NoPanic.normal ?_
            obtain ⟨Q8, col8, evl8, HRR⟩ := read6_fin HA.out true HE.out HM.out hm1 HK3.out HO3.out HK4.out HB5.out HW5.out HB6.out HR6.out HS6.out HD6.out HO7.out HG7.out HAT.out hzz
            go_wp2_with fail
            go_meet
            exact ⟨_, _, Q8, col8, evl8, HRR⟩

    case rest =>
    clear HS3 HO3 HK3 HR3 d0 d2 d14 d12 d13 hHeld
    obtain ⟨g, cap, Q8, col8, evl8, HR⟩ := hcut
    have c14 : wc.cell? ⟨R, 14, none⟩ = some (.int .i64 lf) := by rw [← HLF.out]; exact HR.out.rel.cells 14
    have f14 : wc.frozen? ⟨R, 14, none⟩ = false := frozen_of_row _ _ _ _ _ HR.out.rel.hR
    have c4 : wc.cell? ⟨R, 10, none⟩ = some (.slice a 0 c) := by rw [← HV.out]; exact HR.out.rel.cells 10
    have f4 : wc.frozen? ⟨R, 10, none⟩ = false := frozen_of_row _ _ _ _ _ HR.out.rel.hR
    have FIN : Hid (Stepped w R ln N (RelH Fs R Kc vE Q) (got s true k t) true (.returned (.bool true)) ((wc.setCell ⟨R, 14, none⟩ (.int .i64 (lf - k))).setCell ⟨R, 10, none⟩ (.slice bp k bc))) := by
      rw [← HLF.out]
      exact read_end (d := true) (by rw [HT.out]; exact HR.out) (by rw [HLF.out]; exact hlk) (by rw [HLF.out]; exact hlb.2)
    clear HR
    go_wp2_with fail
    go_ret
    exact FIN.out

end Go.Proofs.YthpdphbppapkhaaDoor
