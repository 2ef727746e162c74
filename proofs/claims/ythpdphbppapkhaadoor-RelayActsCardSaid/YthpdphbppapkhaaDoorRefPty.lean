/-
  The walks of the document's line (two reference queues): New, Write, Read, Over. Condition: it lies in memory as 'RefP' says; what waits are bytes.
-/
import Derived.Test.YthpdphbppapkhaaDoorRefs
namespace Go.Proofs.YthpdphbppapkhaaDoor
open Go.RowKit qb

/-- Block m is a document's line; G: its blocks. -/
def RefP (w : World) (m : Nat) (G : List Nat) (n : Nat) (s : Line) : Prop :=
  ∃ m0 m1 G0 G1, G = m :: (G0 ++ G1) ∧ w.heap[m]? = some (.cells #[.pointer (some ⟨m0, 0, none⟩), .pointer (some ⟨m1, 0, none⟩)] 51 (0, 0)) ∧ RefQ w m0 G0 s.x0 n s.e0 ∧ RefQ w m1 G1 s.x1 n s.e1 ∧
    (∀ k, k ∈ G0 → k ∉ G1) ∧ m ∉ G0 ∧ m ∉ G1

theorem RefP.lt {w : World} {m : Nat} {G : List Nat} {n : Nat} {s : Line} (h : RefP w m G n s) : ∀ k, k ∈ G → k < w.heap.size := by
  obtain ⟨m0, m1, G0, G1, rfl, hm, h0, h1, _⟩ := h
  intro k hk
  rcases List.mem_cons.1 hk with rfl | hk
  · exact (Array.getElem?_eq_some_iff.1 hm).1
  · rcases List.mem_append.1 hk with hk | hk
    · exact h0.lt k hk
    · exact h1.lt k hk

theorem RefP.keeps {w w' : World} {m : Nat} {G F : List Nat} {n : Nat} {s : Line} (h : RefP w m G n s) (hk : Keeps F w w') (hd : ∀ k, k ∈ G → k ∉ F) : RefP w' m G n s := by
  have hlt := h.lt
  obtain ⟨m0, m1, G0, G1, rfl, hm, h0, h1, r⟩ := h
  exact ⟨m0, m1, G0, G1, rfl, (hk.block m (hlt m (by simp)) (hd m (by simp))).trans hm, h0.keeps hk (fun k h => hd k (by simp [h])), h1.keeps hk (fun k h => hd k (by simp [h])), r⟩

theorem RefP.below {w w' : World} {m : Nat} {G : List Nat} {n : Nat} {s : Line} (h : RefP w m G n s) {B : Nat} (hb : Below B w w') (hB : w.heap.size ≤ B) : RefP w' m G n s :=
  h.keeps (Keeps.of_below (hb.mono hB) []) (fun _ _ hx => by cases hx)

/-- The queue of side j, and what becomes of the line where it alone is written. -/
theorem RefP.way {w : World} {m : Nat} {G : List Nat} {n : Nat} {s : Line} (h : RefP w m G n s) (j : Bool) : ∃ q Gq, w.cell? ⟨m, if j then 1 else 0, none⟩ = some (.pointer (some ⟨q, 0, none⟩)) ∧ RefQ w q Gq (s.x j) n (s.e j) ∧ (∀ k, k ∈ Gq → k ∈ G) ∧
    ∀ w' Gq' xs e, RefQ w' q Gq' xs n e → Keeps Gq w w' → (∀ k, k ∈ Gq' → k ∈ Gq ∨ w.heap.size ≤ k) → ∃ G', RefP w' m G' n (s.set j xs e) ∧ Keeps G w w' ∧ ∀ k, k ∈ G' → k ∈ G ∨ w.heap.size ≤ k := by
  have hlt := h.lt
  obtain ⟨m0, m1, G0, G1, rfl, hm, h0, h1, hd, hn0, hn1⟩ := h
  have hml := hlt m (by simp)
  have keep : ∀ (F : List Nat) (w' : World), Keeps F w w' → (∀ k, k ∈ F → k ∈ m :: (G0 ++ G1)) → Keeps (m :: (G0 ++ G1)) w w' := fun F w' hk hs => ⟨hk.os, hk.tape, hk.output, hk.size, fun k hl hn => hk.block k hl (fun h => hn (hs k h))⟩
  cases j
  · refine ⟨m0, G0, cell_at hm 0, h0, fun k hk => by simp [hk], fun w' Gq' xs e hq hk hs => ?_⟩
    refine ⟨m :: (Gq' ++ G1), ⟨m0, m1, Gq', G1, rfl, (hk.block m hml hn0).trans hm, hq, h1.keeps hk (fun k a b => hd k b a), fun k a b => ?_, fun a => ?_, hn1⟩, keep G0 w' hk (fun k hk => by simp [hk]), fun k a => ?_⟩
    · rcases hs k a with c | c
      · exact hd k c b
      · have := hlt k (by simp [b]); omega
    · rcases hs m a with c | c
      · exact hn0 c
      · omega
    · simp only [List.mem_cons, List.mem_append] at a ⊢
      rcases a with a | a | a
      · exact .inl (.inl a)
      · rcases hs k a with c | c
        · exact .inl (.inr (.inl c))
        · exact .inr c
      · exact .inl (.inr (.inr a))
  · refine ⟨m1, G1, cell_at hm 1, h1, fun k hk => by simp [hk], fun w' Gq' xs e hq hk hs => ?_⟩
    refine ⟨m :: (G0 ++ Gq'), ⟨m0, m1, G0, Gq', rfl, (hk.block m hml hn1).trans hm, h0.keeps hk hd, hq, fun k a b => ?_, hn0, fun a => ?_⟩, keep G1 w' hk (fun k hk => by simp [hk]), fun k a => ?_⟩
    · rcases hs k b with c | c
      · exact hd k a c
      · have := hlt k (by simp [a]); omega
    · rcases hs m a with c | c
      · exact hn1 c
      · omega
    · simp only [List.mem_cons, List.mem_append] at a ⊢
      rcases a with a | a | a
      · exact .inl (.inl a)
      · exact .inl (.inr (.inl a))
      · rcases hs k a with c | c
        · exact .inl (.inr (.inr c))
        · exact .inr c

set_option maxHeartbeats 1000000 in
theorem ref_new (room : Int) (h1 : 1 ≤ room) (h2 : room ≤ 65536) (w : World) :
    Calls Tryd.prog 23 #[.int .i64 room] w fun e w' => ∃ m G, e = .returned (.pointer (some ⟨m, 0, none⟩)) ∧ RefP w' m G room.toNat ⟨[], [], false, false⟩ ∧ Below w.heap.size w w' ∧ ∀ k, k ∈ G → w.heap.size ≤ k := by
  obtain ⟨B, hB⟩ : ∃ B, w.heap.size = B := ⟨_, rfl⟩
  go_enter Tryd.func23, Tryd.ntmps23
  go_wp2_with fail
  go_ret
  have hr : room = (room.toNat : Int) := by omega
  obtain ⟨q, hq⟩ : ∃ q, room.toNat = q := ⟨_, rfl⟩
  rw [hq] at hr
  subst hr
  simp only [Int.toNat_natCast]
  have a0 : ((w.alloc (.cells #[.slice none 0 0, .int .i64 q, .bool false] 47)).alloc (.cells #[.slice none 0 0, .int .i64 q, .bool false] 47)).heap[B]? = some (.cells #[.slice none 0 0, .int .i64 q, .bool false] 47) := by
    rw [heap_alloc_old _ _ (by simp; omega), ← hB]
    exact heap_alloc_new w _
  have a1 : ((w.alloc (.cells #[.slice none 0 0, .int .i64 q, .bool false] 47)).alloc (.cells #[.slice none 0 0, .int .i64 q, .bool false] 47)).heap[B + 1]? = some (.cells #[.slice none 0 0, .int .i64 q, .bool false] 47) := by
    have := heap_alloc_new (w.alloc (.cells #[.slice none 0 0, .int .i64 q, .bool false] 47)) (.cells #[.slice none 0 0, .int .i64 q, .bool false] 47)
    rw [World.size_alloc, hB] at this
    exact this
  refine ⟨B + 1 + 1, (B + 1 + 1) :: ([B] ++ [B + 1]), rfl, ⟨B, B + 1, [B], [B + 1], rfl, ?_, ?_, ?_, ?_, ?_, ?_⟩, ?_, ?_⟩
  · have := heap_alloc_new ((w.alloc (.cells #[.slice none 0 0, .int .i64 q, .bool false] 47)).alloc (.cells #[.slice none 0 0, .int .i64 q, .bool false] 47)) (.cells #[.pointer (some ⟨B, 0, none⟩), .pointer (some ⟨B + 1, 0, none⟩)] 51)
    rw [World.size_alloc, World.size_alloc, hB] at this
    exact this
  · exact ⟨.slice none 0 0, (heap_alloc_old _ _ (by simp; omega)).trans a0, rfl, World.ownsRow_nil _ _ _ _, by simp, by omega⟩
  · exact ⟨.slice none 0 0, (heap_alloc_old _ _ (by simp; omega)).trans a1, rfl, World.ownsRow_nil _ _ _ _, by simp, by omega⟩
  · intro k a b
    simp at a b
    omega
  · simp; omega
  · simp
  · rw [hB]
    exact (((Below.refl B w).alloc (by omega) _).alloc (by simp; omega) _).alloc (by simp; omega) _
  · intro k hk
    simp at hk
    omega

theorem own_lowerB {W : World} {base base' : Nat} {v : Value} {k : Nat} {xs : List Value} (h : W.ownsRow base 5 1 v k xs) (hb : base' ≤ base) : W.ownsRow base' 5 1 v k xs := by
  refine ⟨h.1, ?_⟩
  rcases h.2 with ⟨e, hz⟩ | ⟨g, cap, cur, e, hge, rest⟩
  · exact .inl ⟨e, hz⟩
  · exact .inr ⟨g, cap, cur, e, Nat.le_trans hb hge, rest⟩

/-- A byte as a number, and back. -/
theorem u8_i64 {z : Int} (h : U8 z) : IntKind.i64.wrap z = z := IntWalk.i64_in _ (by have := h.1; have := h.2; omega)

theorem given_own {w wr : World} {Gq : List Nat} {sp : Option Addr} {n sc : Nat} {zs : List Int} (h : wr.ownsRow w.heap.size 3 1 (.slice sp n sc) n (zs.map fun x => .int .i64 x)) (hlt : ∀ k, k ∈ Gq → k < w.heap.size) : GivenI wr Gq sp n sc zs := by
  obtain ⟨h1, h2⟩ := own_cap h
  obtain ⟨h3, h4⟩ := ints_of_own h
  refine ⟨h1, h2, h3, fun i hi => ?_⟩
  obtain ⟨b, off, rfl, hc⟩ := h4 i hi
  refine ⟨b, off, rfl, World.block_lt_of_cell? wr _ hc, fun hm => ?_, hc⟩
  have h5 := h.lt b
  have h6 := hlt b hm
  have h7 := (h5 rfl).1
  omega

set_option maxRecDepth 100000 in
set_option maxHeartbeats 2000000 in
theorem ref_write {w : World} {m : Nat} {G : List Nat} {n : Nat} {s : Line} (h : RefP w m G n s) (j : Bool) (side : Int) (hside : sd (!j) = side) (a : Option Addr) (ln cap : Nat) (zs : List Int) (hy : IsBytes w a ln cap zs) (hln : ln ≤ 100)
    (xs : List Int) (e : Bool) (hx : s.x j = xs) (he : s.e j = e) :
    Calls Tryd.prog 24 #[.pointer (some ⟨m, 0, none⟩), .int .i64 side, .slice a ln cap] w fun r w' => r = .returned (.int .i64 (took ln xs.length n e)) ∧ ∃ G', RefP w' m G' n (s.set j (xs ++ zs.take (took ln xs.length n e)) e) ∧ Keeps G w w' ∧ ∀ k, k ∈ G' → k ∈ G ∨ w.heap.size ≤ k := by
  subst hx
  subst he
  obtain ⟨q, Gq, c0, hq, hsub, hset⟩ := h.way j
  have hmlt := World.block_lt_of_cell? w _ c0
  have hqlt := hq.lt
  have HSET : Hid _ := hset
  have HQ := Lib.hid hq
  have HY := Lib.hid hy
  have hnc := hy.1
  have hcm := hy.2.1
  have hzl := hy.2.2.1
  have HC : Hid _ := hy.2.2.2
  have HQL : Hid _ := hqlt
  have HZL := Lib.hid hzl
  unfold maxLen at hcm
  obtain ⟨k, hk⟩ : ∃ k, took ln (s.x j).length n (s.e j) = k := ⟨_, rfl⟩
  rw [hk]
  have HPUT : Hid (∀ (wr : World) sp sc, Below w.heap.size w wr → wr.ownsRow w.heap.size 3 1 (.slice sp ln sc) ln (zs.map fun x => .int .i64 x) → Calls Tryd.prog 51 #[.pointer (some ⟨q, 0, none⟩), .slice sp ln sc] wr fun e w' => e = .returned (.int .i64 k) ∧ RefPutInv wr q Gq (s.x j) zs n (s.e j) k w') := by
    intro wr sp sc hb ho
    rw [← hk]
    exact ref_put (hq.below hb (Nat.le_refl _)) sp ln sc (given_own ho hqlt)
  clear hk hset hq hy hqlt hzl h
  have fin : Hid (∀ (wr w' : World), Below w.heap.size w wr → RefPutInv wr q Gq (s.x j) zs n (s.e j) k w' → ∃ G', RefP w' m G' n (s.set j (s.x j ++ zs.take k) (s.e j)) ∧ Keeps G w w' ∧ ∀ k, k ∈ G' → k ∈ G ∨ w.heap.size ≤ k) := by
    intro wr w' hb hp
    obtain ⟨G', hq', hk', hs'⟩ := hp
    refine HSET.out w' G' _ _ hq' ((Keeps.of_below hb Gq).trans hk' (fun x h => .inl h)) (fun x hx => ?_)
    rcases hs' x hx with h | h
    · exact .inl h
    · exact .inr (Nat.le_trans hb.size h)
  clear HSET HQ
  cases j
  all_goals
    simp only [Bool.not_false, Bool.not_true, sd, if_true, Bool.false_eq_true, if_false] at hside c0
    subst hside
    go_enter Tryd.func24, Tryd.ntmps24
    go_wp2_with fail
    go_loopg [7, 8] ln (fun g v7 v8 wr => ∃ i : Nat, i + g = ln ∧ v8 = .int .i64 i ∧ OwnInts wr w.heap.size v7 (zs.take i) ∧ Below w.heap.size w wr)
    case atStart => exact ⟨0, by omega, rfl, by rw [List.take_zero]; exact .nil _ _, Below.refl _ _⟩
    case round =>
      obtain ⟨i, hi, rfl, hown, hbel⟩ := hrel
      have HOWN := Lib.hid hown
      have HBEL := Lib.hid hbel
      have hsz := hbel.size
      have d0 := (hbel.cell (p := ⟨m, _, none⟩) hmlt).trans c0
      clear hown hbel
      by_cases hlt : i < ln
      · obtain ⟨b, off, rfl, hblt, hxi, hu⟩ := HC.out i hlt
        have dx := (HBEL.out.cell (p := ⟨b, off + i, none⟩) hblt).trans hxi
        have hwr := u8_i64 hu
        obtain ⟨x, hxx⟩ : ∃ x, zs.getD i 0 = x := ⟨_, rfl⟩
        rw [hxx] at dx hwr
        have HXX := Lib.hid hxx
        have hsum : (zs.take i).length + 1 ≤ 1000000 := by rw [List.length_take]; omega
        have HSUM := Lib.hid hsum
        clear hsum hxi hxx hu
        go_wp2_with (at_builtin; refine wpList_app rfl _ _ rfl w.heap.size _ _ [x] rfl (HOWN.out.alloc _) (some ⟨wr.heap.size, 0, none⟩) 1 1 rfl (ints_one _ _) HSUM.out (by simp; omega) ?_; intro v' w5 hown5 hgrow5 hat5)
        go_roundg (ln - (i + 1))
        case measure => omega
        case rel =>
          refine ⟨i + 1, by omega, by go_num, ?_, (HBEL.out.alloc hsz _).grown hgrow5 (by simp; omega) (fun j hj => (HOWN.out.lt j hj).1)⟩
          rw [List.take_succ_eq_append_getElem (by have := HZL.out; omega)]
          have hg : zs[i]'(by have := HZL.out; omega) = x := by
            have := HXX.out
            simpa only [List.getD_eq_getElem?_getD, List.getElem?_eq_getElem (show i < zs.length by have := HZL.out; omega), Option.getD_some] using this
          rw [hg]
          exact hown5
      · have hin : i = ln := by omega
        subst hin
        have hown2 := HOWN.out
        rw [List.take_of_length_le (by have := HZL.out; omega)] at hown2
        obtain ⟨sp, sc, rfl⟩ := hown2.form
        unfold OwnInts at hown2
        rw [HZL.out] at hown2 ⊢
        have HP := Lib.hid (HPUT.out wr sp sc HBEL.out hown2)
        clear hown2 HPUT HOWN HC
        go_wp2_with fail
        refine Calls.mono HP.out ?_
        rintro e w5 ⟨rfl, hinv⟩
        have HF := Lib.hid (fin.out wr w5 HBEL.out hinv)
        clear hinv fin HP
        go_wp2_with fail
        go_ret
        exact ⟨rfl, HF.out⟩

theorem infoB : (Tryd.prog.info? 5).map (fun i => (i.zero, i.size, i.bytes)) = some (some (.int .u8 0), 1, 1) := by kernel_rfl

theorem u8_u8 {z : Int} (h : U8 z) : IntKind.u8.wrap z = z := by
  obtain ⟨h1, h2⟩ := h
  simp [IntKind.wrap, IntKind.bits, IntKind.signed]
  omega

set_option maxRecDepth 100000 in
set_option maxHeartbeats 2000000 in
theorem ref_read {w : World} {m : Nat} {G : List Nat} {n : Nat} {s : Line} (h : RefP w m G n s) (j : Bool) (side : Int) (hside : sd j = side) (arg : Int) (xs : List Int) (e : Bool) (hx : s.x j = xs) (he : s.e j = e) (hu : ∀ z, z ∈ xs → U8 z) :
    Calls Tryd.prog 25 #[.pointer (some ⟨m, 0, none⟩), .int .i64 side, .int .i64 arg] w fun r w' => ∃ sp sc, r = .returned (.slice sp (count arg xs.length) sc) ∧
      w'.ownsRow w.heap.size 5 1 (.slice sp (count arg xs.length) sc) (count arg xs.length) ((xs.take (count arg xs.length)).map fun x => .int .u8 x) ∧
      ∃ G', RefP w' m G' n (s.set j (xs.drop (count arg xs.length)) e) ∧ Keeps G w w' ∧ ∀ k, k ∈ G' → k ∈ G ∨ w.heap.size ≤ k := by
  obtain ⟨q, Gq, c0, hq, hsub, hset⟩ := h.way j
  rw [hx, he] at hq
  have hmlt := World.block_lt_of_cell? w _ c0
  have HSET : Hid _ := hset
  have hqm : xs.length ≤ 65536 := by obtain ⟨_, _, _, _, h1, h2⟩ := hq; omega
  obtain ⟨k, hk⟩ : ∃ k, count arg xs.length = k := ⟨_, rfl⟩
  have hkx : k ≤ xs.length := by rw [← hk]; exact count_le _ _
  have HT := Lib.hid (ref_take hq arg)
  rw [hk] at HT ⊢
  obtain ⟨zs, hzs⟩ : ∃ zs, xs.take k = zs := ⟨_, rfl⟩
  have hzl : zs.length = k := by rw [← hzs, List.length_take]; omega
  have hzu : ∀ i, i < k → U8 (zs.getD i 0) := by
    intro i hi
    refine hu _ (List.mem_of_mem_take (i := k) ?_)
    rw [hzs, List.getD_eq_getElem?_getD, List.getElem?_eq_getElem (by omega)]
    exact List.getElem_mem _
  have HZU : Hid _ := hzu
  have HZL := Lib.hid hzl
  have HZS := Lib.hid hzs
  clear hk hset hq hzl hzu hu h
  rw [hzs]
  clear hzs
  have fin : Hid (∀ w1 wr, (∃ G', RefQ w1 q G' (xs.drop k) n e ∧ Keeps Gq w w1 ∧ (∀ k, k ∈ G' → k ∈ Gq ∨ w.heap.size ≤ k)) → Below w1.heap.size w1 wr → ∃ G', RefP wr m G' n (s.set j (xs.drop k) e) ∧ Keeps G w wr ∧ ∀ k, k ∈ G' → k ∈ G ∨ w.heap.size ≤ k) := by
    rintro w1 wr ⟨G', h1, h2, h3⟩ hb
    obtain ⟨G2, a1, a2, a3⟩ := HSET.out w1 G' _ _ h1 h2 h3
    exact ⟨G2, a1.below hb (Nat.le_refl _), a2.trans (Keeps.of_below hb G) (fun x h => .inl h), a3⟩
  obtain ⟨i0, hi0, hz0, hz1, hz2⟩ := info_parts infoB
  clear HSET hx he
  cases j
  all_goals
    simp only [sd, if_true, Bool.false_eq_true, if_false] at hside c0
    subst hside
    go_enter Tryd.func25, Tryd.ntmps25
    go_wp2_with fail
    refine Calls.mono HT.out ?_
    rintro r w1 ⟨v, rfl, hv, hw1⟩
    rw [HZS.out] at hv
    obtain ⟨sp1, sc1, rfl⟩ := hv.form
    have hks : w.heap.size ≤ w1.heap.size := by obtain ⟨_, _, h, _⟩ := hw1; exact h.size
    have hx1 := ints_of_own hv
    obtain ⟨_, hxc⟩ := hx1
    obtain ⟨hc1, hc2⟩ := own_cap hv
    unfold OwnInts at hv
    rw [HZL.out] at hv hxc hc1 ⊢
    have HXC : Hid _ := hxc
    have HW1 := Lib.hid hw1
    unfold maxLen at hc2
    clear hv hw1 hxc HT c0
    go_wp2_with fail
    go_loopg [8, 9] k (fun g v8 v9 wr => ∃ i : Nat, i + g = k ∧ v9 = .int .i64 i ∧ wr.ownsRow w1.heap.size 5 1 v8 i ((zs.take i).map fun x => .int .u8 x) ∧ Below w1.heap.size w1 wr)
    case atStart => exact ⟨0, by omega, rfl, World.ownsRow_nil _ _ _ _, Below.refl _ _⟩
    case round =>
      obtain ⟨i, hi, rfl, hown, hbel⟩ := hrel
      have HOWN := Lib.hid hown
      have HBEL := Lib.hid hbel
      have hsz := hbel.size
      clear hown hbel
      by_cases hlt : i < k
      · obtain ⟨b, off, rfl, hxi⟩ := HXC.out i hlt
        have hblt := World.block_lt_of_cell? w1 _ hxi
        have dx := (HBEL.out.cell (p := ⟨b, off + i, none⟩) hblt).trans hxi
        have hwr := u8_u8 (HZU.out i hlt)
        obtain ⟨x, hxx⟩ : ∃ x, zs.getD i 0 = x := ⟨_, rfl⟩
        rw [hxx] at dx hwr
        have HXX := Lib.hid hxx
        clear hxi hxx
        go_wp2_with (at_builtin; refine wpList_append_own _ rfl _ _ 22 rfl w1.heap.size 5 i0 (.int .u8 0) 1 1 Tryd.underlying22 hi0 hz0 hz1 hz2 rfl (by decide) _ _ _ rfl (HOWN.out.alloc _) ⟨wr.heap.size, 0, none⟩ 1 1 [.int .u8 x] rfl rfl (cell_one_new _ _ _) (by intro u hu; simp at hu; subst hu; rfl) (by unfold maxLen; omega) (by omega) (by simp; omega) ?_; intro v' w5 hown5 hgrow5 hat5)
        go_roundg (k - (i + 1))
        case measure => omega
        case rel =>
          refine ⟨i + 1, by omega, by go_num, ?_, (HBEL.out.alloc hsz _).grown hgrow5 (by simp; omega) (fun j hj => (HOWN.out.lt j hj).1)⟩
          rw [List.take_succ_eq_append_getElem (by have := HZL.out; omega), List.map_append]
          have hg : zs[i]'(by have := HZL.out; omega) = x := by
            have := HXX.out
            simpa only [List.getD_eq_getElem?_getD, List.getElem?_eq_getElem (show i < zs.length by have := HZL.out; omega), Option.getD_some] using this
          rw [hg]
          exact hown5
      · have hin : i = k := by omega
        subst hin
        have hown2 := HOWN.out
        rw [List.take_of_length_le (by have := HZL.out; omega)] at hown2
        obtain ⟨sp, sc, rfl⟩ := own_form hown2
        have hf := fin.out w1 wr HW1.out HBEL.out
        have HF := Lib.hid hf
        have HO2 := Lib.hid hown2
        clear hf hown2 HOWN
        go_wp2_with fail
        go_ret
        refine ⟨_, _, rfl, ?_, HF.out⟩
        exact own_lowerB HO2.out hks

/-- The cells of side j's queue. -/
theorem RefQ.cells {w : World} {q : Nat} {G : List Nat} {xs : List Int} {n : Nat} {e : Bool} (h : RefQ w q G xs n e) : ∃ sp sc, w.cell? ⟨q, 0, none⟩ = some (.slice sp xs.length sc) ∧ w.cell? ⟨q, 2, none⟩ = some (.bool e) ∧ w.frozen? ⟨q, 2, none⟩ = false := by
  obtain ⟨v, hm, rfl, ho, _⟩ := h
  obtain ⟨sp, sc, rfl⟩ := ho.form
  exact ⟨sp, sc, cell_at hm 0, cell_at hm 2, frozen_of_row _ _ _ _ _ hm⟩

theorem ref_over {w : World} {m : Nat} {G : List Nat} {n : Nat} {s : Line} (h : RefP w m G n s) (j : Bool) (side : Int) (hside : sd j = side) (o : Bool) (ho : (s.e j && decide ((s.x j).length = 0)) = o) :
    Calls Tryd.prog 26 #[.pointer (some ⟨m, 0, none⟩), .int .i64 side] w fun e w' => e = .returned (.bool o) ∧ w = w' := by
  obtain ⟨q, Gq, c0, hq, _, _⟩ := h.way j
  obtain ⟨sp, sc, d0, d2, _⟩ := hq.cells
  clear hq h
  obtain ⟨e, he⟩ : ∃ e, s.e j = e := ⟨_, rfl⟩
  obtain ⟨k, hk⟩ : ∃ k, (s.x j).length = k := ⟨_, rfl⟩
  rw [he] at d2 ho
  rw [hk] at d0 ho
  clear he hk
  subst ho
  cases j
  all_goals
    simp only [sd, if_true, Bool.false_eq_true, if_false] at hside c0
    subst hside
    cases e
    · go_enter Tryd.func26, Tryd.ntmps26
      go_wp2_with fail
      go_ret
      exact ⟨rfl, rfl⟩
    · go_enter Tryd.func26, Tryd.ntmps26
      go_wp2_with fail
      go_ret
      exact ⟨ret_bool (by by_cases h : k = 0 <;> simp [h]), rfl⟩

theorem RefP.drewN {w : World} {m : Nat} {G : List Nat} {n : Nat} {s : Line} (h : RefP w m G n s) (k : Nat) : RefP (w.drewN k) m G n s := h.below (below_drewN (Below.refl _ _) k) (Nat.le_refl _)

theorem ref_over_q {w : World} {m : Nat} {G : List Nat} {n : Nat} {s : Line} (h : RefP w m G n s) (j : Bool) (side : Int) (hside : sd j = side) (o : Bool) (ho : (s.e j && decide ((s.x j).length = 0)) = o) (k : Nat) :
    Calls Tryd.prog 26 #[.pointer (some ⟨m, 0, none⟩), .int .i64 side] (w.drewN k) fun e w' => e = .returned (.bool o) ∧ ∃ m, w' = w.drewN m :=
  (ref_over (h.drewN k) j side hside o ho).mono fun _ _ ⟨a, b⟩ => ⟨a, k, b.symm⟩

theorem ref_room_q {w : World} {m : Nat} {G : List Nat} {xs : List Int} {most : Nat} {ended : Bool} (h : RefQ w m G xs most ended) (r : Int) (hr : roomOf xs.length most ended = r) (k : Nat) :
    Calls Tryd.prog 27 #[.pointer (some ⟨m, 0, none⟩)] (w.drewN k) fun e w' => e = .returned (.int .i64 r) ∧ ∃ m, w' = w.drewN m :=
  (ref_room (h.drewN k)).mono fun _ _ ⟨a, m, b⟩ => ⟨by rw [a, hr], k + m, by rw [b, World.drewN_drewN]⟩

end Go.Proofs.YthpdphbppapkhaaDoor
