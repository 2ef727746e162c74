/-
  The walk of the reference queue's Put. Condition: it lies in memory as 'RefQ' says, what is put in none of its blocks.
-/
import Derived.Test.YthpdphbppapkhaaRef
namespace Go.Proofs.Ythpdphbppapkhaa
open Go.RowKit qi

theorem ref_put_step {w W w1 : World} {m most g cap : Nat} {v : Value} {ended : Bool} {zs : List Int} {y : Int} (hm : w.heap[m]? = some (.cells #[v, .int .i64 most, .bool ended] 54 (0, 0))) (ho : OwnInts w 0 v zs) (h1 : zs.length + 1 ≤ most) (h2 : most ≤ 65536) (hW : Below w.heap.size w W)
    (hown : w1.ownsRow 0 3 1 (.slice (some ⟨g, 0, none⟩) (zs.length + 1) cap) (zs.length + 1) ((zs.map fun x => .int .i64 x) ++ [.int .i64 y])) (hgrow : W.grownBy w1 v.ownBlock) (hat : v.ownBlock = some g ∨ w.heap.size ≤ g) :
    RefQ (w1.setCell ⟨m, 0, none⟩ (.slice (some ⟨g, 0, none⟩) (zs.length + 1) cap)) m (m :: [g]) (zs ++ [y]) most ended ∧ Keeps (m :: v.ownBlock.toList) w (w1.setCell ⟨m, 0, none⟩ (.slice (some ⟨g, 0, none⟩) (zs.length + 1) cap)) ∧
      ∀ k, k ∈ m :: [g] → k ∈ m :: v.ownBlock.toList ∨ w.heap.size ≤ k := by
  have hml : m < w.heap.size := (Array.getElem?_eq_some_iff.1 hm).1
  have hne : v.ownBlock ≠ some m := ref_apart hm ho
  have hm1 : w1.heap[m]? = some (.cells #[v, .int .i64 most, .bool ended] 54 (0, 0)) := (hgrow.block m (Nat.lt_of_lt_of_le hml hW.size) (fun e => hne e.symm)).trans ((hW.block m hml).trans hm)
  have hown' : OwnInts w1 0 (.slice (some ⟨g, 0, none⟩) (zs.length + 1) cap) (zs ++ [y]) := by
    unfold OwnInts
    rw [List.length_append, List.map_append]
    exact hown
  refine ⟨RefQ.set hm1 hown' (by rw [List.length_append]; exact h1) h2, ⟨?_, ?_, ?_, ?_, ?_⟩, ?_⟩
  · exact hgrow.os.trans hW.os
  · exact hgrow.tape.trans hW.tape
  · exact hgrow.output.trans hW.output
  · have := hW.size; have := hgrow.size; simp; omega
  · intro k hk hn
    refine (heap_setCell_other _ _ _ _ (fun e => hn (by simp [e]))).trans ?_
    exact (hgrow.block k (Nat.lt_of_lt_of_le hk hW.size) (fun e => hn (by simp [← e]))).trans (hW.block k hk)
  · intro k hk
    rcases List.mem_cons.1 hk with rfl | hk
    · exact .inl (by simp)
    · rcases List.mem_singleton.1 hk with rfl
      rcases hat with e | e
      · exact .inl (by simp [e])
      · exact .inr e

theorem ref_far {w W w1 : World} {m most : Nat} {v : Value} {ended : Bool} {zs : List Int} (hm : w.heap[m]? = some (.cells #[v, .int .i64 most, .bool ended] 54 (0, 0))) (ho : OwnInts w 0 v zs) (hW : Below w.heap.size w W) (hgrow : W.grownBy w1 v.ownBlock) :
    w1.cell? ⟨m, 0, none⟩ = some v ∧ w1.frozen? ⟨m, 0, none⟩ = false := by
  have hml : m < w.heap.size := (Array.getElem?_eq_some_iff.1 hm).1
  have hm1 : w1.heap[m]? = some (.cells #[v, .int .i64 most, .bool ended] 54 (0, 0)) := (hgrow.block m (Nat.lt_of_lt_of_le hml hW.size) (fun e => ref_apart hm ho e.symm)).trans ((hW.block m hml).trans hm)
  exact ⟨cell_at hm1 0, frozen_of_row _ _ _ _ _ hm1⟩

/-- Behind i of the things: k of them were taken. -/
def RefPutInv (w : World) (m : Nat) (G : List Nat) (xs ys : List Int) (most : Nat) (ended : Bool) (k : Nat) (wr : World) : Prop :=
  ∃ G', RefQ wr m G' (xs ++ ys.take k) most ended ∧ Keeps G w wr ∧ ∀ x, x ∈ G' → x ∈ G ∨ w.heap.size ≤ x

set_option maxRecDepth 100000 in
set_option maxHeartbeats 2000000 in
theorem ref_put {w : World} {m : Nat} {G : List Nat} {xs ys : List Int} {most : Nat} {ended : Bool} (h : RefQ w m G xs most ended) (xa : Option Addr) (n cap : Nat) (hy : GivenIn w G xa n cap ys) :
    Calls Try.prog 29 #[.pointer (some ⟨m, 0, none⟩), .slice xa n cap] w fun e w' => e = .returned (.int .i64 (took n xs.length most ended)) ∧ RefPutInv w m G xs ys most ended (took n xs.length most ended) w' := by
  obtain ⟨hnc, hcm, hyn, hyc⟩ := hy
  obtain ⟨R, hR⟩ : ∃ R, (if ended then 0 else most - xs.length) = R := ⟨_, rfl⟩
  have hlen := h
  obtain ⟨_, _, _, _, hxm, hmm⟩ := hlen
  have hroom : ∀ j, j ≤ R → roomOf (xs.length + j) most ended = (R : Int) - j := by
    intro j hj
    cases ended
    · simp only [Bool.false_eq_true, if_false] at hR
      unfold roomOf
      simp only [Bool.false_eq_true, if_false]
      omega
    · simp only [if_true] at hR
      unfold roomOf
      simp only [if_true]
      omega
  have hRm : xs.length + R ≤ most := by
    cases ended
    · simp only [Bool.false_eq_true, if_false] at hR
      omega
    · simp only [if_true] at hR
      omega
  have htk : took n xs.length most ended = min n R := by unfold took; rw [hR]
  rw [htk]
  unfold maxLen at hcm
  have HYC : Hid (∀ i, i < n → ∃ xb xo, xa = some ⟨xb, xo, none⟩ ∧ xb < w.heap.size ∧ xb ∉ G ∧ w.cell? ⟨xb, xo + i, none⟩ = some (Value.int .i64 (ys.getD i 0))) := hyc
  have HROOM : Hid (∀ j, j ≤ R → roomOf (xs.length + j) most ended = (R : Int) - j) := hroom
  have HRM := Lib.hid hRm
  have HYN := Lib.hid hyn
  have HMM := Lib.hid hmm
  have hinv : RefPutInv w m G xs ys most ended 0 w := ⟨G, by rw [List.take_zero, List.append_nil]; exact h, Keeps.refl _ _, fun x hx => .inl hx⟩
  clear hyc hroom hRm hyn hmm hxm htk hR h
  go_enter Try.func29, Try.ntmps29
  go_wp2
  go_loopg [5, 6] n (fun g v5 v6 wr => ∃ i : Nat, i + g = n ∧ v6 = .int .i64 i ∧ v5 = .int .i64 (min i R : Nat) ∧ RefPutInv w m G xs ys most ended (min i R) wr)
  case atStart => exact ⟨0, by omega, rfl, by rw [Nat.zero_min]; rfl, by rw [Nat.zero_min]; exact hinv⟩
  case round =>
    clear hinv
    obtain ⟨i, hi, rfl, rfl, G', hq, hk, hs⟩ := hrel
    obtain ⟨j, hj⟩ : ∃ j, min i R = j := ⟨_, rfl⟩
    rw [hj] at hq ⊢
    by_cases hlt : i < n
    · obtain ⟨xb, xo, rfl, hxl, hxg, hxi⟩ := HYC.out i hlt
      have dx : wr.cell? ⟨xb, xo + i, none⟩ = some (Value.int .i64 (ys.getD i 0)) := (World.cell?_of_block (a := ⟨xb, xo + i, none⟩) (hk.block _ hxl hxg)).trans hxi
      obtain ⟨y, hyy⟩ : ∃ y, ys.getD i 0 = y := ⟨_, rfl⟩
      rw [hyy] at dx
      have hzl : (xs ++ ys.take j).length = xs.length + j := by rw [List.length_append, List.length_take]; have := HYN.out; omega
      have hrm := HROOM.out j (by omega)
      rw [← hzl] at hrm
      have HRR := Lib.hid hrm
      have HQ := Lib.hid hq
      have HK := Lib.hid hk
      have HS : Hid _ := hs
      have HZL := Lib.hid hzl
      have HYY := Lib.hid hyy
      have HJ := Lib.hid hj
      clear hxi hrm hq hk hs hzl hyy hj hxg
      go_wp2_with fail
      refine (ref_room HQ.out).mono ?_
      rintro e w' ⟨rfl, k, rfl⟩
      rw [HRR.out]
      by_cases hpos : 0 < (R : Int) - j
      · have hji : j = i := by have := HJ.out; omega
        subst hji
        obtain ⟨v, hm, rfl, ho, h1, h2⟩ := HQ.out
        obtain ⟨sp, sc, rfl⟩ := ho.form
        obtain ⟨i0, hi0, hz0, hz1, hz2⟩ := info_parts info
        rw [HZL.out] at hm ho
        have c0 : wr.cell? ⟨m, 0, none⟩ = some (.slice sp (xs.length + j) sc) := cell_at hm 0
        have f0 : wr.frozen? ⟨m, 0, none⟩ = false := frozen_of_row _ _ _ _ _ hm
        have hml : m < wr.heap.size := World.block_lt_of_cell? wr _ c0
        have hxne : xb < wr.heap.size := World.block_lt_of_cell? wr _ dx
        have hrk : xs.length + j + 1 ≤ 65536 := by have := HRM.out; have := HMM.out; omega
        have HO : Hid (wr.ownsRow 0 3 1 (.slice sp (xs.length + j) sc) (xs.length + j) ((xs ++ ys.take j).map fun x => .int .i64 x)) := by
          have := ho
          unfold OwnInts at this
          rw [HZL.out] at this
          exact this
        have HM := Lib.hid hm
        have ca : ∀ o, ((wr.drewN (k + 1)).alloc o).cell? ⟨m, 0, none⟩ = some (.slice sp (xs.length + j) sc) := fun o => (World.cell?_alloc_lt (wr.drewN (k + 1)) o ⟨m, 0, none⟩ hml).trans c0
        have HO2 := Lib.hid ho
        have HBW : Hid (∀ o, Below wr.heap.size wr ((wr.drewN (k + 1)).alloc o)) := fun o => (below_drewN (Below.refl _ _) _).alloc (Nat.le_refl _) _
        clear hm ho
        go_wp2_with fail
        go_region_law ((refine step_append_lies _ (by rfl) _ _ _ (by rfl) 0 3 i0 _ 1 8 Try.underlying35 hi0 hz0 hz1 hz2 rfl (by omega) (.slice sp (xs.length + j) sc) (xs.length + j) _ (by rfl) ((own_drewN HO.out (k + 1)).alloc _) ⟨wr.heap.size, 0, none⟩ 1 1 [(Value.int .i64 y)] (by rfl) (by rfl) (World.news_of_block (cs := #[(Value.int .i64 y)]) (t := 3) (fr := (0, 0)) (heap_alloc_new _ _)) (by simp [Value.oneCell']) (by omega) (by unfold maxLen; omega) (by omega) (by simp) (wr.heap.size + 1) (by simp) ?_; intro gg cap' w1 hown1 hgrow hat hlt'; obtain ⟨e1, f1⟩ := ref_far HM.out HO2.out (HBW.out _) hgrow))
        all_goals
          have hstep := ref_put_step HM.out HO2.out (by rw [HZL.out]; have := HRM.out; omega) HMM.out (HBW.out _) (by rw [HZL.out]; exact hown1) hgrow (hat.elim .inl (fun e => .inr (by omega)))
          rw [HZL.out] at hstep
          have HS2 : Hid (∀ x, x ∈ m :: (Value.slice sp (xs.length + j) sc).ownBlock.toList → x ∈ G ∨ w.heap.size ≤ x) := by rw [← HZL.out]; exact HS.out
          have HSTEP := Lib.hid hstep
          clear hstep hown1 hgrow hat ca
          go_wp2
          go_roundg (n - (j + 1))
          case measure => omega
          case rel =>
            have hh : min (j + 1) R = j + 1 := by omega
            have hjl : j < ys.length := by have := HYN.out; omega
            have hnx : xs ++ ys.take (j + 1) = (xs ++ ys.take j) ++ [y] := by
              rw [List.append_assoc, List.take_succ_eq_append_getElem hjl]
              have : ys[j] = y := by
                have := HYY.out
                simpa only [List.getD_eq_getElem?_getD, List.getElem?_eq_getElem hjl, Option.getD_some] using this
              rw [this]
            refine ⟨j + 1, by omega, by go_num, by rw [hh]; go_num, ?_⟩
            rw [hh]
            unfold RefPutInv
            rw [hnx]
            refine ⟨_, HSTEP.out.1, HK.out.trans HSTEP.out.2.1 HS2.out, fun x hx => ?_⟩
            rcases HSTEP.out.2.2 x hx with h | h
            · exact HS2.out x h
            · exact .inr (Nat.le_trans HK.out.size h)
      · go_wp2
        go_roundg (n - (i + 1))
        case measure => omega
        case rel =>
          have hh : min (i + 1) R = j := by have := HJ.out; omega
          exact ⟨i + 1, by omega, by go_num, by rw [hh], by rw [hh]; exact ⟨G', HQ.out, ⟨HK.out.os, HK.out.tape, HK.out.output, HK.out.size, HK.out.block⟩, HS.out⟩⟩
    · have hin : i = n := by omega
      subst hin
      subst hj
      go_wp2
      go_ret
      exact ⟨rfl, G', hq, hk, hs⟩

end Go.Proofs.Ythpdphbppapkhaa
