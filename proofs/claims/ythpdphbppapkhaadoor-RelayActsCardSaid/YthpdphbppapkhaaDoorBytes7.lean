/-
  The walks of the reference's Bytes over notes, and of 'begins'. Condition: the notes hold at most 262144 bytes.
-/
import Derived.Test.YthpdphbppapkhaaDoorRun7
namespace Go.Proofs.YthpdphbppapkhaaDoor
open Go.RowKit qb

theorem noted_snoc (d : Int) (evs : List Ev) (i : Nat) (e : Ev) (h : evs[i]? = some e) : noted d (evs.take (i + 1)) = noted d (evs.take i) ++ (if e.dir = d then e.data else []) := by
  rw [List.take_add_one, h]
  show noted d (evs.take i ++ [e]) = _
  rw [noted_app]
  simp [noted]

theorem noted_take_le (d : Int) (evs : List Ev) (i : Nat) : (noted d (evs.take i)).length ≤ total evs := Nat.le_trans (noted_le _ _) (total_take _ _)

set_option maxRecDepth 100000 in
set_option maxHeartbeats 2000000 in
theorem ref_bytes {w : World} {B : Nat} {v : Value} {evs : List Ev} (h : Told w B v evs) (d : Int) (hs : total evs ≤ 262144) (hl : evs.length ≤ 4096) :
    Calls Tryd.prog 35 #[.int .i64 d, v] w fun e w' => ∃ u, e = .returned u ∧ w'.ownsRow w.heap.size 5 1 u (noted d evs).length ((noted d evs).map fun x => .int .u8 x) ∧ Below w.heap.size w w' := by
  obtain ⟨sp, sc, Q, rfl, hle, hcm, hQ, hget⟩ := h.get
  obtain ⟨n, hn⟩ : ∃ n, evs.length = n := ⟨_, rfl⟩
  rw [hn] at hle hl ⊢
  unfold maxLen at hcm
  have HG : Hid _ := hget
  have HS := Lib.hid hs
  have HN := Lib.hid hn
  clear h hget hs hn hQ
  go_enter Tryd.func35, Tryd.ntmps35
  go_wp2_with fail
  go_loopg [5, 6] n (fun g v5 v6 wr => ∃ i : Nat, i + g = n ∧ v6 = .int .i64 i ∧ Hid (wr.ownsRow w.heap.size 5 1 v5 (noted d (evs.take i)).length ((noted d (evs.take i)).map fun x => .int .u8 x)) ∧ Below w.heap.size w wr)
  case atStart => exact ⟨0, by omega, rfl, World.ownsRow_nil _ _ _ _, Below.refl _ _⟩
  case round =>
    obtain ⟨i, hi, rfl, hown, hb⟩ := hrel
    by_cases hlt : i < n
    · obtain ⟨e, he⟩ : ∃ e, evs[i]? = some e := ⟨evs[i]'(by rw [HN.out]; exact hlt), by rw [List.getElem?_eq_getElem]⟩
      obtain ⟨g, x, rfl, hg1, hg2, hg3, c0, c1, c2, hsl, _⟩ := HG.out i e he
      have d0 := (hb.cell (p := ⟨g, i * 3, none⟩) hg2).trans c0
      have d2 := (hb.cell (p := ⟨g, i * 3 + 2, none⟩) hg2).trans c2
      obtain ⟨a, c, rfl, _, _⟩ := hsl.form
      have hsn := noted_snoc d evs i e he
      have hle1 := noted_take_le d evs (i + 1)
      have hle2 := HS.out
      obtain ⟨dir, time, data⟩ := e
      obtain ⟨k, hk⟩ : ∃ k, data.length = k := ⟨_, rfl⟩
      dsimp only at *
      rw [hk] at d2 hsl
      have HSL := Lib.hid (hsl.below hb)
      obtain ⟨xs, hxs⟩ : ∃ xs, noted d (evs.take i) = xs := ⟨_, rfl⟩
      rw [hxs] at hown hsn
      obtain ⟨m, hm⟩ : ∃ m, xs.length = m := ⟨_, rfl⟩
      rw [hm] at hown
      have HSN := Lib.hid hsn
      have HOWN := hown
      have HB := Lib.hid hb
      by_cases hd : dir = d
      · have hnx : noted d (evs.take (i + 1)) = xs ++ data := by rw [hsn, if_pos hd]
        have hmk : m + k ≤ 262144 := by rw [hnx, List.length_append, hm, hk] at hle1; omega
        have HNX := Lib.hid hnx
        have HLN : Hid ((xs ++ data).length = m + k) := by show _ = _; rw [List.length_append, hm, hk]
        have hbs := hb.size
        clear c0 c1 c2 he hsl hsn hle1 hown hb hxs hm hk hnx
        go_wp2_with (at_builtin; refine wpList_app5 rfl _ _ rfl w.heap.size _ xs data m rfl HOWN.out Q a k c rfl HSL.out (by omega) hbs ?_; intro v' w5 hown5 hgrow5)
        go_roundg (n - (i + 1))
        case measure => omega
        case rel =>
          refine ⟨i + 1, by omega, by go_num, ?_, HB.out.grown hgrow5 hbs (fun j hj => ?_)⟩
          · show World.ownsRow _ _ _ _ _ _ _
            rw [HNX.out, HLN.out]
            exact hown5
          · have := row_lt HOWN.out j (Option.mem_toList.2 hj)
            omega
      · have hnx : noted d (evs.take (i + 1)) = xs := by rw [hsn, if_neg hd, List.append_nil]
        have HNX := Lib.hid hnx
        have HXM := Lib.hid hm
        clear c0 c1 c2 he hsl hsn hle1 hown hb hxs hm hk hnx
        go_wp2_with fail
        go_roundg (n - (i + 1))
        case measure => omega
        case rel =>
          refine ⟨i + 1, by omega, by go_num, ?_, HB.out⟩
          show World.ownsRow _ _ _ _ _ _ _
          rw [HNX.out, HXM.out]
          exact HOWN.out
    · have hin : i = n := by omega
      subst hin
      have HB := Lib.hid hb
      clear hb
      go_wp2_with fail
      go_ret
      have h := hown.out
      rw [List.take_of_length_le (by rw [HN.out]; exact Nat.le_refl _)] at h
      exact ⟨_, rfl, h, HB.out⟩

theorem begins7 (r x : List Int) : (strOfNums (r ++ x)).extract 0 (strOfNums r).size = strOfNums r := by
  apply ByteArray.ext
  simp [strOfNums, ByteArray.size]

theorem begins_any (xs ys : List Int) (hb : xs.length + ys.length ≤ 1000000) (w : World) :
    Calls Tryd.prog 36 #[.string (strOfNums xs), .string (strOfNums (xs ++ ys))] w fun e w' => e = .returned (.bool true) ∧ w = w' := by
  obtain ⟨R, hR⟩ : ∃ R, strOfNums xs = R := ⟨_, rfl⟩
  obtain ⟨S, hS⟩ : ∃ S, strOfNums (xs ++ ys) = S := ⟨_, rfl⟩
  obtain ⟨ra, hra⟩ : ∃ ra, R.size = ra := ⟨_, rfl⟩
  obtain ⟨sb, hsb⟩ : ∃ sb, S.size = sb := ⟨_, rfl⟩
  have hxl : xs.length = ra := by rw [← hra, ← hR, strOfNums_size]
  have hsl : sb = ra + ys.length := by rw [← hsb, ← hS, strOfNums_size, List.length_append, hxl]
  have hpre : S.extract 0 ra = R := by
    rw [← hra, ← hS, ← hR]
    exact begins7 xs ys
  rw [hR, hS]
  have hle : ra ≤ sb := by omega
  have hb2 : sb ≤ 1000000 := by omega
  clear hR hS hsl hxl hb
  go_enter Tryd.func36, Tryd.ntmps36
  go_wp2_with fail
  go_ret
  exact ⟨rfl, rfl⟩

end Go.Proofs.YthpdphbppapkhaaDoor
