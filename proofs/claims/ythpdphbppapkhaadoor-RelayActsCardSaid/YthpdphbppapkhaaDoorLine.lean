/-
  The walks of a line's own calls: New, Write, Read, Hang, Over, Waits, Room, of a line in memory, of none, and of sides that are none. Condition: the table 'other' reads as the program's text lays it.
-/
import Derived.Test.YthpdphbppapkhaaDoorPty
import Derived.Laws.BytesArg
namespace Go.Proofs.YthpdphbppapkhaaDoor
open Go.RowKit qb

/-! ### sides that are none -/
section
variable (pt : Option Addr) (side : Int) (h : pt = none ∨ side < 0 ∨ 2 ≤ side) (w : World)
include h

theorem write_bad (ho : Oth w) (a : Option Addr) (m cap : Nat) : Calls Tryd.prog 16 #[.pointer pt, .int .i64 side, .slice a m cap] w fun e w' => e = .returned (.int .i64 0) ∧ w = w' := by
  go_enter Tryd.func16, Tryd.ntmps16
  go_wp2_with fail
  refine (from_bad pt side h w ho).mono ?_
  rintro e w' ⟨rfl, rfl⟩
  go_wp2_with fail
  refine (put_nil a m cap w).mono ?_
  rintro e w' ⟨rfl, rfl⟩
  go_wp2_with fail
  go_ret
  exact ⟨rfl, rfl⟩

theorem read_bad (arg : Int) : Calls Tryd.prog 17 #[.pointer pt, .int .i64 side, .int .i64 arg] w fun e w' => e = .returned (.slice none 0 0) ∧ w = w' := by
  go_enter Tryd.func17, Tryd.ntmps17
  go_wp2_with fail
  refine (way_bad pt side h w).mono ?_
  rintro e w' ⟨rfl, rfl⟩
  go_wp2_with fail
  refine (take_nil arg w).mono ?_
  rintro e w' ⟨rfl, rfl⟩
  go_wp2_with fail
  go_ret
  exact ⟨rfl, rfl⟩

theorem hang_bad (ho : Oth w) : Calls Tryd.prog 18 #[.pointer pt, .int .i64 side] w fun e w' => e = .returned (.tuple #[]) ∧ w = w' := by
  go_enter Tryd.func18, Tryd.ntmps18
  go_wp2_with fail
  refine (from_bad pt side h w ho).mono ?_
  rintro e w' ⟨rfl, rfl⟩
  go_wp2_with fail
  refine (end_nil w).mono ?_
  rintro e w' ⟨rfl, rfl⟩
  go_wp2_with fail
  go_end0
  exact ⟨rfl, rfl⟩

theorem over_bad : Calls Tryd.prog 19 #[.pointer pt, .int .i64 side] w fun e w' => e = .returned (.bool false) ∧ w = w' := by
  go_enter Tryd.func19, Tryd.ntmps19
  go_wp2_with fail
  refine (way_bad pt side h w).mono ?_
  rintro e w' ⟨rfl, rfl⟩
  go_wp2_with fail
  refine (over_nil w).mono ?_
  rintro e w' ⟨rfl, rfl⟩
  go_wp2_with fail
  go_ret
  exact ⟨rfl, rfl⟩

theorem waits_bad : Calls Tryd.prog 21 #[.pointer pt, .int .i64 side] w fun e w' => e = .returned (.int .i64 0) ∧ w = w' := by
  go_enter Tryd.func21, Tryd.ntmps21
  go_wp2_with fail
  refine (way_bad pt side h w).mono ?_
  rintro e w' ⟨rfl, rfl⟩
  go_wp2_with fail
  refine (len_nil w).mono ?_
  rintro e w' ⟨rfl, rfl⟩
  go_wp2_with fail
  go_ret
  exact ⟨rfl, rfl⟩

theorem room_bad (ho : Oth w) : Calls Tryd.prog 22 #[.pointer pt, .int .i64 side] w fun e w' => e = .returned (.int .i64 0) ∧ w = w' := by
  go_enter Tryd.func22, Tryd.ntmps22
  go_wp2_with fail
  refine (from_bad pt side h w ho).mono ?_
  rintro e w' ⟨rfl, rfl⟩
  go_wp2_with fail
  refine (room_nil w).mono ?_
  rintro e w' ⟨rfl, rfl⟩
  go_wp2_with fail
  go_ret
  exact ⟨rfl, rfl⟩
end

/-! ### of a line -/
theorem given_sub {w : World} {F G : List Nat} {sl : Option Addr} {n c : Nat} {ys : List Int} (h : GivenIn w F sl n c ys) (hs : ∀ k, k ∈ G → k ∈ F) : GivenIn w G sl n c ys := by
  obtain ⟨h1, h2, h3, h4⟩ := h
  refine ⟨h1, h2, h3, fun i hi => ?_⟩
  obtain ⟨b, off, e, hlt, hn, hc⟩ := h4 i hi
  exact ⟨b, off, e, hlt, fun hm => hn (hs b hm), hc⟩

section
variable {w : World} {p : Nat} {F : List Nat} {n : Nat} {s : Line}

/-- Behind a write into queue 0 (1) of the line. -/
theorem IsP.put0 {w' : World} {b0 b1 : Nat} {F0 F1 F0' : List Nat} {xs : List Int} {e0 : Bool} (hp : w.heap[p]? = some (.cells #[.pointer (some ⟨b0, 0, none⟩), .pointer (some ⟨b1, 0, none⟩)] 87 (0, 0)))
    (h1 : IsQ w b1 F1 s.x1 n s.e1) (hd : ∀ k, k ∈ F0 → k ∉ F1) (hp0 : p ∉ F0) (hp1 : p ∉ F1) (ho : Oth w) (hz : 0 ∉ p :: (F0 ++ F1)) (hq : IsQ w' b0 F0' xs n e0) (hk : Keeps F0 w w') (hs : ∀ k, k ∈ F0' → k ∈ F0 ∨ w.heap.size ≤ k) :
    IsP w' p (p :: (F0' ++ F1)) n { s with x0 := xs, e0 := e0 } ∧ Keeps (p :: (F0 ++ F1)) w w' ∧ ∀ k, k ∈ p :: (F0' ++ F1) → k ∈ p :: (F0 ++ F1) ∨ w.heap.size ≤ k := by
  have hlp : p < w.heap.size := (Array.getElem?_eq_some_iff.1 hp).1
  have z0 : 0 ∉ F0 := fun h => hz (by simp [h])
  refine ⟨⟨b0, b1, F0', F1, rfl, (hk.block p hlp hp0).trans hp, hq, h1.keeps hk (fun k hk1 hk0 => hd k hk0 hk1), fun k hk0 hk1 => ?_, fun h => ?_, hp1, ho.keeps hk z0, fun h => ?_⟩, ⟨hk.os, hk.tape, hk.output, hk.size, fun k hl hn => hk.block k hl (fun h => hn (by simp [h]))⟩, fun k h => ?_⟩
  · rcases hs k hk0 with h | h
    · exact hd k h hk1
    · have := h1.lt k hk1; omega
  · rcases hs p h with h | h
    · exact hp0 h
    · omega
  · rcases List.mem_cons.1 h with h | h
    · exact hz (by simp [h])
    · rcases List.mem_append.1 h with h | h
      · rcases hs 0 h with h | h
        · exact z0 h
        · have := ho.pos; omega
      · exact hz (by simp [h])
  · rcases List.mem_cons.1 h with h | h
    · exact .inl (by simp [h])
    · rcases List.mem_append.1 h with h | h
      · rcases hs k h with h | h
        · exact .inl (by simp [h])
        · exact .inr h
      · exact .inl (by simp [h])

theorem IsP.put1 {w' : World} {b0 b1 : Nat} {F0 F1 F1' : List Nat} {xs : List Int} {e1 : Bool} (hp : w.heap[p]? = some (.cells #[.pointer (some ⟨b0, 0, none⟩), .pointer (some ⟨b1, 0, none⟩)] 87 (0, 0)))
    (h0 : IsQ w b0 F0 s.x0 n s.e0) (hd : ∀ k, k ∈ F0 → k ∉ F1) (hp0 : p ∉ F0) (hp1 : p ∉ F1) (ho : Oth w) (hz : 0 ∉ p :: (F0 ++ F1)) (hq : IsQ w' b1 F1' xs n e1) (hk : Keeps F1 w w') (hs : ∀ k, k ∈ F1' → k ∈ F1 ∨ w.heap.size ≤ k) :
    IsP w' p (p :: (F0 ++ F1')) n { s with x1 := xs, e1 := e1 } ∧ Keeps (p :: (F0 ++ F1)) w w' ∧ ∀ k, k ∈ p :: (F0 ++ F1') → k ∈ p :: (F0 ++ F1) ∨ w.heap.size ≤ k := by
  have hlp : p < w.heap.size := (Array.getElem?_eq_some_iff.1 hp).1
  have z1 : 0 ∉ F1 := fun h => hz (by simp [h])
  refine ⟨⟨b0, b1, F0, F1', rfl, (hk.block p hlp hp1).trans hp, h0.keeps hk hd, hq, fun k hk0 hk1 => ?_, hp0, fun h => ?_, ho.keeps hk z1, fun h => ?_⟩, ⟨hk.os, hk.tape, hk.output, hk.size, fun k hl hn => hk.block k hl (fun h => hn (by simp [h]))⟩, fun k h => ?_⟩
  · rcases hs k hk1 with h | h
    · exact hd k hk0 h
    · have := h0.lt k hk0; omega
  · rcases hs p h with h | h
    · exact hp1 h
    · omega
  · rcases List.mem_cons.1 h with h | h
    · exact hz (by simp [h])
    · rcases List.mem_append.1 h with h | h
      · exact hz (by simp [h])
      · rcases hs 0 h with h | h
        · exact z1 h
        · have := ho.pos; omega
  · rcases List.mem_cons.1 h with h | h
    · exact .inl (by simp [h])
    · rcases List.mem_append.1 h with h | h
      · exact .inl (by simp [h])
      · rcases hs k h with h | h
        · exact .inl (by simp [h])
        · exact .inr h

/-- The way to side j. -/
theorem IsP.way (h : IsP w p F n s) (j : Bool) : ∃ b Fq, (Calls Tryd.prog 45 #[.pointer (some ⟨p, 0, none⟩), .int .i64 (sd j)] w fun e w' => e = .returned (.pointer (some ⟨b, 0, none⟩)) ∧ w = w') ∧
    (Calls Tryd.prog 43 #[.pointer (some ⟨p, 0, none⟩), .int .i64 (sd !j)] w fun e w' => e = .returned (.pointer (some ⟨b, 0, none⟩)) ∧ w = w') ∧ IsQ w b Fq (s.x j) n (s.e j) ∧ (∀ k, k ∈ Fq → k ∈ F) ∧
    ∀ w' Fq' xs e, IsQ w' b Fq' xs n e → Keeps Fq w w' → (∀ k, k ∈ Fq' → k ∈ Fq ∨ w.heap.size ≤ k) → ∃ F', IsP w' p F' n (s.set j xs e) ∧ Keeps F w w' ∧ (∀ k, k ∈ F' → k ∈ F ∨ w.heap.size ≤ k) ∧ (Fq' = Fq → F' = F) := by
  obtain ⟨b0, b1, F0, F1, rfl, hp, h0, h1, hd, hp0, hp1, ho, hz⟩ := h
  cases j
  · refine ⟨b0, F0, way_at hp false, from_at hp ho true, h0, fun k hk => by simp [hk], fun w' Fq' xs e hq hk hs => ?_⟩
    obtain ⟨a1, a2, a3⟩ := IsP.put0 hp h1 hd hp0 hp1 ho hz hq hk hs
    exact ⟨_, a1, a2, a3, fun e => by rw [e]⟩
  · refine ⟨b1, F1, way_at hp true, from_at hp ho false, h1, fun k hk => by simp [hk], fun w' Fq' xs e hq hk hs => ?_⟩
    obtain ⟨a1, a2, a3⟩ := IsP.put1 hp h0 hd hp0 hp1 ho hz hq hk hs
    exact ⟨_, a1, a2, a3, fun e => by rw [e]⟩

/-- Write, of side j: into the queue of the other one. -/
theorem p_write (h : IsP w p F n s) (j : Bool) (side : Int) (hside : sd (!j) = side) (xa : Option Addr) (m cap : Nat) (ys : List Int) (hy : qb.GivenIn w F xa m cap ys) (k : Nat) (hk : took m (s.x j).length n (s.e j) = k) :
    Calls Tryd.prog 16 #[.pointer (some ⟨p, 0, none⟩), .int .i64 side, .slice xa m cap] w fun e w' => e = .returned (.int .i64 k) ∧ ∃ F', IsP w' p F' n (s.set j (s.x j ++ ys.take k) (s.e j)) ∧ Keeps F w w' ∧ ∀ k, k ∈ F' → k ∈ F ∨ w.heap.size ≤ k := by
  subst hside
  obtain ⟨b, Fq, hw, hf, hq, hsub, hset⟩ := h.way j
  have HF := Lib.hid hf
  have HS : Hid _ := hset
  clear hw hf hset
  go_enter Tryd.func16, Tryd.ntmps16
  go_wp2_with fail
  refine Calls.mono HF.out ?_
  rintro e w' ⟨rfl, rfl⟩
  go_wp2_with fail
  refine (q_put_at hq xa m cap (given_sub hy hsub) k _ hk rfl).mono ?_
  rintro e w' ⟨rfl, F1', hq', hkp, hs⟩
  obtain ⟨F', a1, a2, a3, _⟩ := HS.out _ _ _ _ hq' hkp hs
  clear HF HS
  go_wp2_with fail
  go_ret
  exact ⟨rfl, F', a1, a2, a3⟩

/-- Read, of side j: out of its queue. -/
theorem p_read (h : IsP w p F n s) (j : Bool) (side : Int) (hside : sd j = side) (arg : Int) (k : Nat) (hk : count arg (s.x j).length = k) :
    Calls Tryd.prog 17 #[.pointer (some ⟨p, 0, none⟩), .int .i64 side, .int .i64 arg] w fun e w' => ∃ sp sc, e = .returned (.slice sp k sc) ∧ w'.ownsRow w.heap.size 5 1 (.slice sp k sc) k (((s.x j).take k).map fun x => .int .u8 x) ∧ IsP w' p F n (s.set j ((s.x j).drop k) (s.e j)) ∧ Keeps F w w' := by
  subst hside
  obtain ⟨b, Fq, hw, hf, hq, hsub, hset⟩ := h.way j
  have HF := Lib.hid hw
  have HS : Hid _ := hset
  clear hw hf hset
  go_enter Tryd.func17, Tryd.ntmps17
  go_wp2_with fail
  refine Calls.mono HF.out ?_
  rintro e w' ⟨rfl, rfl⟩
  go_wp2_with fail
  refine (q_take_at hq arg k _ _ hk rfl rfl).mono ?_
  rintro e w' ⟨sp, sc, rfl, hown, hq', hkp⟩
  obtain ⟨F', a1, a2, _, a4⟩ := HS.out _ _ _ _ hq' hkp (fun _ h => .inl h)
  obtain rfl := a4 rfl
  clear HF HS
  go_wp2_with fail
  go_ret
  exact ⟨sp, sc, rfl, hown, a1, a2⟩

/-- Hang: side j's queue is at its end. -/
theorem p_hang (h : IsP w p F n s) (j : Bool) (side : Int) (hside : sd (!j) = side) :
    Calls Tryd.prog 18 #[.pointer (some ⟨p, 0, none⟩), .int .i64 side] w fun e w' => e = .returned (.tuple #[]) ∧ IsP w' p F n (s.set j (s.x j) true) ∧ Keeps F w w' := by
  subst hside
  obtain ⟨b, Fq, hw, hf, hq, hsub, hset⟩ := h.way j
  have HF := Lib.hid hf
  have HS : Hid _ := hset
  clear hw hf hset
  go_enter Tryd.func18, Tryd.ntmps18
  go_wp2_with fail
  refine Calls.mono HF.out ?_
  rintro e w' ⟨rfl, rfl⟩
  go_wp2_with fail
  refine (q_end hq).mono ?_
  rintro e w' ⟨rfl, hq', hkp⟩
  obtain ⟨F', a1, a2, _, a4⟩ := HS.out _ _ _ _ hq' hkp (fun _ h => .inl h)
  obtain rfl := a4 rfl
  clear HF HS
  go_wp2_with fail
  go_end0
  exact ⟨rfl, a1, a2⟩

/-- Write and Read, with what comes under names of the caller's. -/
theorem p_write_at (h : IsP w p F n s) (j : Bool) (side : Int) (hside : sd (!j) = side) (xa : Option Addr) (m cap : Nat) (ys : List Int) (hy : qb.GivenIn w F xa m cap ys) (xs : List Int) (e : Bool) (hx : s.x j = xs) (he : s.e j = e) :
    Calls Tryd.prog 16 #[.pointer (some ⟨p, 0, none⟩), .int .i64 side, .slice xa m cap] w fun r w' => r = .returned (.int .i64 (took m xs.length n e)) ∧ ∃ F', IsP w' p F' n (s.set j (xs ++ ys.take (took m xs.length n e)) e) ∧ Keeps F w w' ∧ ∀ k, k ∈ F' → k ∈ F ∨ w.heap.size ≤ k := by
  subst hx
  subst he
  exact p_write h j side hside xa m cap ys hy _ rfl

theorem p_read_at (h : IsP w p F n s) (j : Bool) (side : Int) (hside : sd j = side) (arg : Int) (xs : List Int) (e : Bool) (hx : s.x j = xs) (he : s.e j = e) :
    Calls Tryd.prog 17 #[.pointer (some ⟨p, 0, none⟩), .int .i64 side, .int .i64 arg] w fun r w' => ∃ sp sc, r = .returned (.slice sp (count arg xs.length) sc) ∧
      w'.ownsRow w.heap.size 5 1 (.slice sp (count arg xs.length) sc) (count arg xs.length) ((xs.take (count arg xs.length)).map fun x => .int .u8 x) ∧ IsP w' p F n (s.set j (xs.drop (count arg xs.length)) e) ∧ Keeps F w w' := by
  subst hx
  subst he
  exact p_read h j side hside arg _ rfl

theorem p_over (h : IsP w p F n s) (j : Bool) (side : Int) (hside : sd j = side) (o : Bool) (ho : (s.e j && decide ((s.x j).length = 0)) = o) :
    Calls Tryd.prog 19 #[.pointer (some ⟨p, 0, none⟩), .int .i64 side] w fun e w' => e = .returned (.bool o) ∧ w = w' := by
  subst hside
  obtain ⟨b, Fq, hw, hf, hq, _, _⟩ := h.way j
  have HF := Lib.hid hw
  clear hw hf
  go_enter Tryd.func19, Tryd.ntmps19
  go_wp2_with fail
  refine Calls.mono HF.out ?_
  rintro e w' ⟨rfl, rfl⟩
  go_wp2_with fail
  refine (q_over_at hq o ho).mono ?_
  rintro e w' ⟨rfl, rfl⟩
  go_wp2_with fail
  go_ret
  exact ⟨rfl, rfl⟩

theorem p_waits (h : IsP w p F n s) (j : Bool) (side : Int) (hside : sd j = side) (m : Nat) (hm : (s.x j).length = m) :
    Calls Tryd.prog 21 #[.pointer (some ⟨p, 0, none⟩), .int .i64 side] w fun e w' => e = .returned (.int .i64 m) ∧ w = w' := by
  subst hside
  obtain ⟨b, Fq, hw, hf, hq, _, _⟩ := h.way j
  have HF := Lib.hid hw
  clear hw hf
  go_enter Tryd.func21, Tryd.ntmps21
  go_wp2_with fail
  refine Calls.mono HF.out ?_
  rintro e w' ⟨rfl, rfl⟩
  go_wp2_with fail
  refine (q_len_at hq m hm).mono ?_
  rintro e w' ⟨rfl, rfl⟩
  go_wp2_with fail
  go_ret
  exact ⟨rfl, rfl⟩

theorem p_room (h : IsP w p F n s) (j : Bool) (side : Int) (hside : sd (!j) = side) (r : Int) (hr : roomOf (s.x j).length n (s.e j) = r) :
    Calls Tryd.prog 22 #[.pointer (some ⟨p, 0, none⟩), .int .i64 side] w fun e w' => e = .returned (.int .i64 r) ∧ ∃ k, w' = w.drewN k := by
  subst hside
  obtain ⟨b, Fq, hw, hf, hq, _, _⟩ := h.way j
  have HF := Lib.hid hf
  clear hw hf
  go_enter Tryd.func22, Tryd.ntmps22
  go_wp2_with fail
  refine Calls.mono HF.out ?_
  rintro e w' ⟨rfl, rfl⟩
  go_wp2_with fail
  refine (q_room_at hq r hr).mono ?_
  rintro e w' ⟨rfl, _, k, rfl⟩
  go_wp2_with fail
  go_ret
  exact ⟨rfl, k, rfl⟩
/-- The calls that only read, in a region that draws. -/
theorem IsP.drewN (h : IsP w p F n s) (k : Nat) : IsP (w.drewN k) p F n s := h.same (fun _ _ => rfl) rfl

theorem p_over_q (h : IsP w p F n s) (j : Bool) (side : Int) (hside : sd j = side) (o : Bool) (ho : (s.e j && decide ((s.x j).length = 0)) = o) (k : Nat) :
    Calls Tryd.prog 19 #[.pointer (some ⟨p, 0, none⟩), .int .i64 side] (w.drewN k) fun e w' => e = .returned (.bool o) ∧ ∃ m, w' = w.drewN m :=
  (p_over (h.drewN k) j side hside o ho).mono fun _ _ ⟨a, b⟩ => ⟨a, k, b.symm⟩

theorem p_waits_q (h : IsP w p F n s) (j : Bool) (side : Int) (hside : sd j = side) (m : Nat) (hm : (s.x j).length = m) (k : Nat) :
    Calls Tryd.prog 21 #[.pointer (some ⟨p, 0, none⟩), .int .i64 side] (w.drewN k) fun e w' => e = .returned (.int .i64 m) ∧ ∃ m, w' = w.drewN m :=
  (p_waits (h.drewN k) j side hside m hm).mono fun _ _ ⟨a, b⟩ => ⟨a, k, b.symm⟩

theorem p_room_q (h : IsP w p F n s) (j : Bool) (side : Int) (hside : sd (!j) = side) (r : Int) (hr : roomOf (s.x j).length n (s.e j) = r) (k : Nat) :
    Calls Tryd.prog 22 #[.pointer (some ⟨p, 0, none⟩), .int .i64 side] (w.drewN k) fun e w' => e = .returned (.int .i64 r) ∧ ∃ m, w' = w.drewN m :=
  (p_room (h.drewN k) j side hside r hr).mono fun _ _ ⟨a, m, b⟩ => ⟨a, k + m, by rw [b, World.drewN_drewN]⟩
end

/-! ### New -/
theorem p_new_bad (room : Int) (h : room < 1 ∨ 65536 < room) (w : World) :
    Calls Tryd.prog 14 #[.int .i64 room] w fun e w' => e = .returned (.tuple #[.pointer none, .int .i64 3]) ∧ Below w.heap.size w w' := by
  go_enter Tryd.func14, Tryd.ntmps14
  go_wp2_with fail
  go_loopg [8] 0 (fun g v8 wr => v8 = .int .i64 0 ∧ wr = w.alloc (.cells #[.pointer none, .pointer none] 87))
  case atStart => exact ⟨rfl, rfl⟩
  case round =>
    obtain ⟨rfl, rfl⟩ := hrel
    go_wp2_with fail
    refine (new_bad room h _).mono ?_
    rintro e w' ⟨rfl, rfl⟩
    go_wp2_with fail
    go_ret2
    exact ⟨rfl, (Below.refl _ _).alloc (Nat.le_refl _) _⟩

set_option maxHeartbeats 1000000 in
theorem p_new (room : Int) (h1 : 1 ≤ room) (h2 : room ≤ 65536) (w : World) (ho : Oth w) :
    Calls Tryd.prog 14 #[.int .i64 room] w fun e w' => ∃ p F, e = .returned (.tuple #[.pointer (some ⟨p, 0, none⟩), .int .i64 0]) ∧ IsP w' p F room.toNat ⟨[], [], false, false⟩ ∧ Below w.heap.size w w' ∧ ∀ k, k ∈ F → w.heap.size ≤ k := by
  obtain ⟨p, hp⟩ : ∃ p, w.heap.size = p := ⟨_, rfl⟩
  have HO := Lib.hid ho
  clear ho
  go_enter Tryd.func14, Tryd.ntmps14
  go_wp2_with fail
  go_loopg [8] 2 (fun g v8 wr => (g = 2 ∧ v8 = .int .i64 0 ∧ wr = w.alloc (.cells #[.pointer none, .pointer none] 87)) ∨
    (g = 1 ∧ v8 = .int .i64 1 ∧ ∃ b0, wr.heap[p]? = some (.cells #[.pointer (some ⟨b0, 0, none⟩), .pointer none] 87 (0, 0)) ∧ IsQ wr b0 [b0] [] room.toNat false ∧ Below p w wr ∧ p < b0) ∨
    (g = 0 ∧ v8 = .int .i64 2 ∧ ∃ b0 b1, wr.heap[p]? = some (.cells #[.pointer (some ⟨b0, 0, none⟩), .pointer (some ⟨b1, 0, none⟩)] 87 (0, 0)) ∧ IsQ wr b0 [b0] [] room.toNat false ∧ IsQ wr b1 [b1] [] room.toNat false ∧ Below p w wr ∧ p < b0 ∧ b0 < b1))
  case atStart => exact .inl ⟨rfl, rfl, rfl⟩
  case round =>
    rcases hrel with ⟨rfl, rfl, rfl⟩ | ⟨rfl, rfl, b0, hb, hq, hbel, hpb⟩ | ⟨rfl, rfl, b0, b1, hb, hq, hq1, hbel, hpb, hbb⟩
    · go_wp2_with fail
      refine (q_new room h1 h2 _).mono ?_
      rintro e w1 ⟨b, rfl, hq, hbel, hb1, hb2⟩
      have hs : (w.alloc (.cells #[.pointer none, .pointer none] 87)).heap.size = p + 1 := by simp [hp]
      rw [hs] at hbel hb1
      have hpc : w1.heap[p]? = some (.cells #[.pointer none, .pointer none] 87 (0, 0)) := (hbel.block p (by omega)).trans (by rw [← hp]; exact heap_alloc_new w _)
      have hB : Below p w w1 := ((Below.refl p w).alloc (by omega) _).trans (hbel.mono (by omega))
      have c0 : w1.cell? ⟨p, 0, none⟩ = some (.pointer none) := cell_at hpc 0
      have f0 : w1.frozen? ⟨p, 0, none⟩ = false := frozen_of_row _ _ _ _ _ hpc
      have HPC := Lib.hid hpc
      have HQ := Lib.hid hq
      have HB := Lib.hid hB
      clear hpc hq hB hbel hs
      go_wp2_with fail
      go_roundg 1
      case measure => omega
      case rel =>
        refine .inr (.inl ⟨rfl, rfl, b, heap_setCell_same w1 p 0 _ _ _ HPC.out, HQ.out.same (fun k hk => heap_setCell_other _ _ _ _ (fun e => ?_)), HB.out.setCell (Nat.le_refl _) _, by omega⟩)
        rcases List.mem_singleton.1 hk with rfl
        have : k = p := e
        omega
    · have hbl := hq.lt b0 (by simp)
      go_wp2_with fail
      refine (q_new room h1 h2 _).mono ?_
      rintro e w1 ⟨b, rfl, hq1, hbel1, hb1, hb2⟩
      have hlp : p < wr.heap.size := (Array.getElem?_eq_some_iff.1 hb).1
      have hpc : w1.heap[p]? = some (.cells #[.pointer (some ⟨b0, 0, none⟩), .pointer none] 87 (0, 0)) := (hbel1.block p hlp).trans hb
      have hB : Below p w w1 := hbel.trans (hbel1.mono (by omega))
      have hq0 := hq.below hbel1 (Nat.le_refl _)
      have c0 : w1.cell? ⟨p, 1, none⟩ = some (.pointer none) := cell_at hpc 1
      have f0 : w1.frozen? ⟨p, 1, none⟩ = false := frozen_of_row _ _ _ _ _ hpc
      have HPC := Lib.hid hpc
      have HQ := Lib.hid hq1
      have HQ0 := Lib.hid hq0
      have HB := Lib.hid hB
      clear hpc hq hB hbel hbel1 hb hq1 hq0
      go_wp2_with fail
      go_roundg 0
      case measure => omega
      case rel =>
        refine .inr (.inr ⟨rfl, rfl, b0, b, heap_setCell_same w1 p 1 _ _ _ HPC.out, HQ0.out.same (fun k hk => heap_setCell_other _ _ _ _ (fun e => ?_)), HQ.out.same (fun k hk => heap_setCell_other _ _ _ _ (fun e => ?_)), HB.out.setCell (Nat.le_refl _) _, hpb, by omega⟩)
        · rcases List.mem_singleton.1 hk with rfl
          have : k = p := e
          omega
        · rcases List.mem_singleton.1 hk with rfl
          have : k = p := e
          omega
    · have h0 : 0 < p := by rw [← hp]; exact HO.out.pos
      have hoth : Oth wr := HO.out.below hbel (by omega)
      clear HO
      go_wp2_with fail
      go_ret2
      refine ⟨p, p :: ([b0] ++ [b1]), rfl, ⟨b0, b1, [b0], [b1], rfl, hb, hq, hq1, ?_, ?_, ?_, hoth, ?_⟩, by rw [hp]; exact hbel, ?_⟩
      · intro k h1 h2
        rcases List.mem_singleton.1 h1 with rfl
        rcases List.mem_singleton.1 h2 with h
        omega
      · simp; omega
      · simp; omega
      · simp; omega
      · intro k hk
        simp at hk
        omega

/-! ### bytes as a text -/
theorem conv_own {w : World} {base : Nat} {sp : Option Addr} {k sc : Nat} {xs : List Int} (h : w.ownsRow base 5 1 (.slice sp k sc) k (xs.map fun x => .int .u8 x)) : (convert 22 9 (.slice sp k sc)).run Tryd.prog w = .ok (.string (strOfNums xs)) w := by
  have hl : xs.length = k := by have := h.1; simpa using this
  rcases h.2 with ⟨e, hz⟩ | ⟨g, cap, cur, e, _⟩
  · obtain ⟨rfl, rfl, rfl⟩ : sp = none ∧ k = 0 ∧ sc = 0 := by simpa using e
    have hx : xs = [] := List.eq_nil_of_length_eq_zero hl
    subst hx
    rw [run_convert_bytes_nil w 22 5 Tryd.underlying22 Tryd.underlying5 0 0 9 Tryd.underlying9]
    rfl
  · obtain ⟨rfl, _⟩ : sp = some ⟨g, 0, none⟩ ∧ sc = cap := by simpa using e
    refine run_convert_bytes_arg w 22 5 Tryd.underlying22 Tryd.underlying5 g 0 k sc xs hl (fun i hi => ?_) 9 Tryd.underlying9
    have hc := h.cells (g := g) rfl i (.int .u8 (xs.getD i 0)) (by simp [List.getElem?_eq_getElem (show i < xs.length by omega)])
    have hadd : (⟨g, 0, none⟩ : Addr).add i = ⟨g, 0 + i, none⟩ := by unfold Addr.add; split <;> simp_all
    rwa [hadd] at hc

theorem conv_nil (w : World) : (convert 22 9 (.slice none 0 0)).run Tryd.prog w = .ok (.string (strOfNums [])) w := by
  rw [run_convert_bytes_nil w 22 5 Tryd.underlying22 Tryd.underlying5 0 0 9 Tryd.underlying9]
  rfl

end Go.Proofs.YthpdphbppapkhaaDoor
