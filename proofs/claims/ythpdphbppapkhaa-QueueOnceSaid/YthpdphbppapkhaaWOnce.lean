/-
  The walk of QueueOnce. No condition.
-/
import Derived.Test.YthpdphbppapkhaaApp
import Derived.Deep.RegionHeld3
namespace Go.Proofs.Ythpdphbppapkhaa.queueOnce
open Go.RowKit qi

/-- The queue, what was put and what was taken, in memory of the call's own, no two in one block. -/
structure Stand (w0 w : World) (b n : Nat) (F : List Nat) (xs ins outs : List Int) (vi vo : Value) : Prop where
  q : IsQ w b F xs n false
  hF : ∀ x, x ∈ F → w0.heap.size ≤ x
  bel : Below w0.heap.size w0 w
  oi : OwnInts w w0.heap.size vi ins
  oo : OwnInts w w0.heap.size vo outs
  ni : ∀ x, vi.ownBlock = some x → x ∉ F
  no : ∀ x, vo.ownBlock = some x → x ∉ F
  nn : ∀ x, vi.ownBlock = some x → vo.ownBlock ≠ some x

theorem Stand.alloc {w0 w : World} {b n : Nat} {F : List Nat} {xs ins outs : List Int} {vi vo : Value} (h : Stand w0 w b n F xs ins outs vi vo) (o : Obj) : Stand w0 (w.alloc o) b n F xs ins outs vi vo :=
  ⟨h.q.below ((Below.refl _ _).alloc (Nat.le_refl _) _) (Nat.le_refl _), h.hF, h.bel.alloc h.bel.size _, h.oi.alloc _, h.oo.alloc _, h.ni, h.no, h.nn⟩

theorem Stand.step {w0 w w' : World} {b n : Nat} {F F' : List Nat} {xs xs' ins outs : List Int} {vi vo : Value} (h : Stand w0 w b n F xs ins outs vi vo) (hq : IsQ w' b F' xs' n false) (hk : Keeps F w w') (hs : ∀ x, x ∈ F' → x ∈ F ∨ w.heap.size ≤ x) : Stand w0 w' b n F' xs' ins outs vi vo :=
  ⟨hq, fun x hx => by
      have := h.bel.size
      rcases hs x hx with hm | hm
      · exact h.hF x hm
      · omega, hk.below h.bel h.hF h.bel.size, own_keeps h.oi hk h.ni, own_keeps h.oo hk h.no,
    fun x hx hm => by
      have := (h.oi.lt x hx).2
      rcases hs x hm with hm | hm
      · exact h.ni x hx hm
      · omega,
    fun x hx hm => by
      have := (h.oo.lt x hx).2
      rcases hs x hm with hm | hm
      · exact h.no x hx hm
      · omega, h.nn⟩

theorem own_grown {w w' : World} {base : Nat} {v u : Value} {xs ys : List Int} (h : OwnInts w base v xs) (hg : w.grownBy w' u.ownBlock) (_hu : OwnInts w base u ys) (hn : ∀ x, v.ownBlock = some x → u.ownBlock ≠ some x) : OwnInts w' base v xs := by
  refine World.ownsRow.kept h hg ?_
  cases hv : v.ownBlock with
  | none => exact .inl rfl
  | some x => exact .inr (fun e => hn x hv e.symm)

theorem Stand.put {w0 w w' : World} {b n : Nat} {F : List Nat} {xs ins outs ins' : List Int} {vi vo v' : Value} (h : Stand w0 w b n F xs ins outs vi vo) (ho : OwnInts w' w0.heap.size v' ins') (hg : w.grownBy w' vi.ownBlock) (hat : v'.ownBlock = vi.ownBlock ∨ v'.ownBlock = some w.heap.size) : Stand w0 w' b n F xs ins' outs v' vo := by
  have hk := keeps_grown h.oi hg
  have hlt := h.q.lt
  refine ⟨h.q.keeps hk (fun k hm hx => ?_), h.hF, hk.below h.bel (fun x hx => ?_) h.bel.size, ho, own_grown h.oo hg h.oi (fun x hx hy => h.nn x hy hx), fun x hx => ?_, h.no, fun x hx => ?_⟩
  · have : vi.ownBlock = some k := by simpa using hx
    exact h.ni k this hm
  · have : vi.ownBlock = some x := by simpa using hx
    exact (h.oi.lt x this).1
  · rcases hat with e | e
    · exact h.ni x (by rw [← e]; exact hx)
    · obtain rfl : w.heap.size = x := by simpa [e] using hx
      intro hm
      have := hlt _ hm
      omega
  · rcases hat with e | e
    · exact h.nn x (by rw [← e]; exact hx)
    · obtain rfl : w.heap.size = x := by simpa [e] using hx
      intro hm
      have := (h.oo.lt _ hm).2
      omega

theorem Stand.swap {w0 w : World} {b n : Nat} {F : List Nat} {xs ins outs : List Int} {vi vo : Value} (h : Stand w0 w b n F xs ins outs vi vo) : Stand w0 w b n F xs outs ins vo vi :=
  ⟨h.q, h.hF, h.bel, h.oo, h.oi, h.no, h.ni, fun x hx hy => h.nn x hy hx⟩

theorem Stand.take {w0 w w' : World} {b n : Nat} {F : List Nat} {xs ins outs outs' : List Int} {vi vo v' : Value} (h : Stand w0 w b n F xs ins outs vi vo) (ho : OwnInts w' w0.heap.size v' outs') (hg : w.grownBy w' vo.ownBlock) (hat : v'.ownBlock = vo.ownBlock ∨ v'.ownBlock = some w.heap.size) : Stand w0 w' b n F xs ins outs' vi v' :=
  (h.swap.put ho hg hat).swap

theorem ints_of_list {w : World} {a : Option Addr} {n cap : Nat} {zs : List Int} (h : IsList w a n cap zs) : Ints w a n zs :=
  ⟨h.2.2.1, fun i hi => by obtain ⟨b, off, e, _, hc, _⟩ := h.2.2.2 i hi; exact ⟨b, off, e, hc⟩⟩

theorem great_len {acts : List Act} (h : isGreat acts = false) : acts.length ≤ 80 ∧ ∀ a, a ∈ acts → a.l.length ≤ 80 := by
  unfold isGreat at h
  rw [Bool.or_eq_false_iff] at h
  refine ⟨by have := of_decide_eq_false h.1; omega, fun a ha => ?_⟩
  have h2 := List.any_eq_false.1 h.2 a ha
  rcases Nat.lt_or_ge 80 a.l.length with hh | hh
  · exact absurd (decide_eq_true hh) h2
  · exact hh

/-- Behind i acts. -/
def Inv (w : World) (b n i : Nat) (vi vo : Value) (wr : World) : Prop :=
  ∃ F xs ins outs, Stand w wr b n F xs ins outs vi vo ∧ ins = outs ++ xs ∧ ins.length ≤ 80 * i

set_option maxRecDepth 100000 in
set_option maxHeartbeats 2000000 in
theorem walk (a0 : Int) (a1 : Option Addr) (len1 cap1 : Nat) (acts : List Act) (w : World) (_h0 : I64 a0) (h1 : IsActs w a1 len1 cap1 acts) :
    Calls Try.prog 5 #[.int .i64 a0, .slice a1 len1 cap1] w fun e w' => e = .returned (.bool true) ∧ Below w.heap.size w w' := by
  have HG : Hid _ := h1
  by_cases hg : isGreat acts = true
  · go_enter Try.func5, Try.ntmps5
    go_wp2_with fail
    refine (alive_any w).mono ?_
    rintro e w1 ⟨rfl, hb1⟩
    go_wp2_with fail
    refine (great_any a1 len1 cap1 acts w1 (h1.below hb1)).mono ?_
    rintro e w2 ⟨rfl, hb2⟩
    rw [hg]
    go_wp2_with fail
    refine (alive_any w2).mono ?_
    rintro e w3 ⟨rfl, hb3⟩
    go_wp2_with fail
    go_ret
    exact ⟨rfl, (hb1.trans (hb2.mono hb1.size)).trans (hb3.mono (Nat.le_trans hb1.size hb2.size))⟩
  · go_enter Try.func5, Try.ntmps5
    go_wp2_with fail
    refine (alive_any w).mono ?_
    rintro e w1 ⟨rfl, hb1⟩
    go_wp2_with fail
    refine (great_any a1 len1 cap1 acts w1 (h1.below hb1)).mono ?_
    rintro e w2 ⟨rfl, hb2⟩
    rw [Bool.not_eq_true] at hg
    have HGL := Lib.hid (great_len hg)
    rw [hg]
    have hbel2 : Below w.heap.size w w2 := hb1.trans (hb2.mono hb1.size)
    have HNEW : Hid (∀ n : Nat, 1 ≤ n → n ≤ 40 → Calls Try.prog 11 #[.int .i64 n] w2 fun e w3 => ∃ b, e = .returned (.tuple #[.pointer (some ⟨b, 0, none⟩), .int .i64 0]) ∧ Inv w b n 0 (.slice none 0 0) (.slice none 0 0) w3) := by
      intro n hn1 hn2
      refine (q_new n (by omega) (by omega) w2).mono ?_
      rintro e w3 ⟨b, rfl, hq, hb3, hbb, _⟩
      rw [Int.toNat_natCast] at hq
      refine ⟨b, rfl, [b], [], [], [], ⟨hq, fun x hx => ?_, hbel2.trans (hb3.mono hbel2.size), .nil _ _, .nil _ _, (fun x hx => nomatch hx), (fun x hx => nomatch hx), (fun x hx => nomatch hx)⟩, rfl, Nat.le_refl _⟩
      rcases List.mem_singleton.1 hx with rfl
      exact Nat.le_trans hbel2.size hbb
    have HA : Hid (∀ i, i < len1 → ∃ b off act, a1 = some ⟨b, off, none⟩ ∧ b < w.heap.size ∧ acts[i]? = some act ∧ IsAct w b (off + i * 3) act) := h1.2.2.2
    have hcap : len1 ≤ cap1 := h1.1
    have hal : acts.length = len1 := h1.2.2.1
    have hl80 : len1 ≤ 80 := by have := HGL.out.1; omega
    clear h1 HG hb1 hb2 hbel2 hg hal
    go_upto_region 3 with fail
    go_cut [5, 6] (fun v5 v6 w' => ∃ n b : Nat, 1 ≤ n ∧ n ≤ 40 ∧ v5 = .pointer (some ⟨b, 0, none⟩) ∧ v6 = .int .i64 0 ∧ Inv w b n 0 (.slice none 0 0) (.slice none 0 0) w')
    case first =>
      go_wp2_with fail
      · refine Calls.mono (by have h := HNEW.out (1 + a0 % 40).toNat (by omega) (by omega); rwa [show ((1 + a0 % 40).toNat : Int) = 1 + a0 % 40 by omega] at h) ?_
        rintro e w3 ⟨b, rfl, hinv⟩
        go_wp2_with fail
        go_meet
        exact ⟨_, b, by omega, by omega, rfl, rfl, hinv⟩
      · refine Calls.mono (HNEW.out 1 (by omega) (by omega)) ?_
        rintro e w3 ⟨b, rfl, hinv⟩
        go_wp2_with fail
        go_meet
        exact ⟨_, b, by omega, by omega, rfl, rfl, hinv⟩
    case rest =>
    clear HNEW
    obtain ⟨n, b, hn1, hn2, rfl, rfl, hinv⟩ := hcut
    go_wp2_with fail
    go_loopg [7, 8, 35] len1 (fun g v7 v8 v35 wr => ∃ i : Nat, i + g = len1 ∧ v35 = .int .i64 i ∧ Inv w b n i v7 v8 wr)
    case atStart => exact ⟨0, by omega, rfl, hinv⟩
    case round =>
      clear hinv
      obtain ⟨i, hi, rfl, F, xs, ins, outs, hst, hio, hlen⟩ := hrel
      by_cases hlt : i < len1
      · obtain ⟨ab, ao, ⟨kd, nn, ll⟩, rfl, hab, hai, la, ln, lc, c0, c1, c2, hl, _⟩ := HA.out i hlt
        have hll : ll.length ≤ 80 := HGL.out.2 ⟨kd, nn, ll⟩ (List.mem_of_getElem? hai)
        have d0 := (hst.bel.cell (p := ⟨ab, ao + i * 3, none⟩) hab).trans c0
        have d1 := (hst.bel.cell (p := ⟨ab, ao + i * 3 + 1, none⟩) hab).trans c1
        have d2 := (hst.bel.cell (p := ⟨ab, ao + i * 3 + 2, none⟩) hab).trans c2
        have HL := Lib.hid hl
        have hlz : ll.length = ln := hl.2.2.1
        have HLZ := Lib.hid hlz
        have HLL := Lib.hid hll
        have HIO := Lib.hid hio
        have HLEN := Lib.hid hlen
        have hFlt : ∀ x, x ∈ F → x ≠ wr.heap.size := fun x hx e => by have := hst.q.lt x hx; omega
        have HFLT : Hid _ := hFlt
        have hst1 := hst.alloc (.cells #[.int .i64 kd, .int .i64 nn, .slice la ln lc] 37)
        have HST := Lib.hid hst1
        clear c0 c1 c2 hl hll hst hai hlz hio hlen hst1 hFlt
        by_cases k0 : kd = 0
        · subst k0
          obtain ⟨k, hk⟩ : ∃ k, took ln xs.length n false = k := ⟨_, rfl⟩
          have hkl : k ≤ ln := hk ▸ took_le _ _ _ _
          have HK := Lib.hid hk
          have hk1 : ¬ ((k : Int) < 0) := by omega
          have hk2 : ¬ ((ln : Int) < k) := by omega
          clear hk
          go_wp2_with fail
          refine (q_put_at HST.out.q la ln lc (HL.out.given HST.out.bel HST.out.hF) k _ HK.out rfl).mono ?_
          rintro e w4 ⟨rfl, F4, hq4, hk4, hs4⟩
          have hst4 := HST.out.step hq4 hk4 hs4
          have hy4 := (ints_of_list (HL.out.below ((Below.mono hst4.bel (Nat.le_refl _))))).cut hkl
          have HB := Lib.hid hst4.bel.size
          have HST4 := Lib.hid hst4
          have HOI := Lib.hid hst4.oi
          have HY4 := Lib.hid hy4
          have hkc : k ≤ lc := by have := HL.out.1; omega
          have hsum : ins.length + k ≤ 1000000 := by have := HLEN.out; have := HLL.out; have := HLZ.out; omega
          have HSUM := Lib.hid hsum
          clear hst4 hy4 hsum
          have m2 : w4.cell? ⟨wr.heap.size, 2, none⟩ = some (.slice la ln lc) := (World.cell?_of_block (a := ⟨wr.heap.size, 2, none⟩) (hk4.block _ (by simp) (fun hm => HFLT.out _ hm rfl))).trans (by simp)
          clear hq4 hk4 hs4
          go_wp2_with (at_builtin; refine wpList_app rfl _ _ rfl w.heap.size _ ins (ll.take k) rfl HOI.out _ k lc rfl HY4.out HSUM.out HB.out ?_; intro v' w5 hown5 hgrow5 hat5)
          go_roundg (len1 - (i + 1))
          case measure => omega
          case rel => exact ⟨i + 1, by omega, by go_num, F4, _, _, outs, HST4.out.put hown5 hgrow5 hat5, by rw [HIO.out, List.append_assoc], by have := HLEN.out; have := HLL.out; rw [List.length_append, List.length_take]; omega⟩
        · have z0 : (kd == 0) = false := by simpa using k0
          by_cases k1 : kd = 1
          · subst k1
            obtain ⟨c, hc⟩ : ∃ c, count nn xs.length = c := ⟨_, rfl⟩
            have hcl : c ≤ xs.length := hc ▸ count_le _ _
            have HC := Lib.hid hc
            clear hc
            go_wp2_with fail
            refine (q_take_at HST.out.q nn c _ _ HC.out rfl rfl).mono ?_
            rintro e w4 ⟨sp, sc, rfl, hown4, hq4, hk4⟩
            have hst4 := HST.out.step hq4 hk4 (fun x hx => .inl hx)
            have hy4 := ints_of_own hown4
            have HB := Lib.hid hst4.bel.size
            have HST4 := Lib.hid hst4
            have HOO := Lib.hid hst4.oo
            have HY4 := Lib.hid hy4
            have hol : outs.length + xs.length = ins.length := by rw [HIO.out, List.length_append]
            have hsum : outs.length + c ≤ 1000000 := by have := HLEN.out; omega
            have HSUM := Lib.hid hsum
            clear hst4 hy4 hsum hq4 hk4 hown4 hol
            go_wp2_with (at_builtin; refine wpList_app rfl _ _ rfl w.heap.size _ outs (xs.take c) rfl HOO.out _ c sc rfl HY4.out HSUM.out HB.out ?_; intro v' w5 hown5 hgrow5 hat5)
            go_roundg (len1 - (i + 1))
            case measure => omega
            case rel => exact ⟨i + 1, by omega, by go_num, F, _, ins, _, HST4.out.take hown5 hgrow5 hat5, by rw [HIO.out, List.append_assoc, List.take_append_drop], by have := HLEN.out; omega⟩
          · have z1 : (kd == 1) = false := by simpa using k1
            go_wp2_with fail
            go_roundg (len1 - (i + 1))
            case measure => omega
            case rel => exact ⟨i + 1, by omega, by go_num, F, xs, ins, outs, HST.out, HIO.out, by have := HLEN.out; omega⟩
      · have HST := Lib.hid hst
        have HIO := Lib.hid hio
        have HLEN := Lib.hid hlen
        clear hst hio hlen HA
        go_wp2_with fail
        refine (coll_q HST.out.q).mono ?_
        rintro e w4 ⟨sp, sc, rfl, hown4, hb4, hs4⟩
        have hst4 := HST.out.step (HST.out.q.below hb4 (Nat.le_refl _)) (Keeps.of_below hb4 F) (fun x hx => .inl hx)
        have hy4 := ints_of_own hown4
        have HB := Lib.hid hst4.bel.size
        have HST4 := Lib.hid hst4
        have HOO := Lib.hid hst4.oo
        have HY4 := Lib.hid hy4
        have hol : outs.length + xs.length = ins.length := by rw [HIO.out, List.length_append]
        have hsum : outs.length + xs.length ≤ 1000000 := by have := HLEN.out; omega
        have HSUM := Lib.hid hsum
        clear hst4 hy4 hsum hb4 hs4 hown4 hol
        go_wp2_with (at_builtin; refine wpList_app rfl _ _ rfl w.heap.size _ outs xs rfl HOO.out _ xs.length sc rfl HY4.out HSUM.out HB.out ?_; intro v' w5 hown5 hgrow5 hat5)
        have hst5 := HST4.out.take hown5 hgrow5 hat5
        have hlo : (outs ++ xs).length = ins.length := by rw [HIO.out]
        have hli : ins.length ≤ maxLen := by have := HLEN.out; simp only [maxLen]; omega
        obtain ⟨sp1, sc1, rfl⟩ := hst5.oi.form
        obtain ⟨sp2, sc2, e2⟩ := hst5.oo.form
        rw [hlo] at e2
        subst e2
        have hx := ints_of_own hst5.oi
        have hyo := hst5.oo
        unfold OwnInts at hyo
        rw [hlo] at hyo
        have hy := ints_of_own hyo
        clear hyo
        refine (same_any sp1 sp2 _ _ sc1 sc2 _ _ _ hx hy hli hli).mono ?_
        rintro e w6 ⟨rfl, k, rfl⟩
        rw [decide_eq_true HIO.out]
        have hbel5 := below_drewN hst5.bel k
        clear hst5 hx hy hown5 hgrow5 hat5
        go_wp2_with fail
        go_ret
        exact ⟨rfl, hbel5⟩

end Go.Proofs.Ythpdphbppapkhaa.queueOnce
