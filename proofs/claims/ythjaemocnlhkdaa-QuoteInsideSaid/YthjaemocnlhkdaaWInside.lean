/-
  The walk of QuoteInside. No condition.
-/
import Derived.Test.YthjaemocnlhkdaaAlive
import Derived.Test.YthjaemocnlhkdaaLaw
namespace Go.Proofs.Ythjaemocnlhkdaa.quoteInside
open Go.RowKit

theorem filter_take {l : List UInt8} {i : Nat} (h : i < l.length) : (l.take (i + 1)).filter inner = (l.take i).filter inner ++ (if inner (l.getD i 0) then [l.getD i 0] else []) := by
  rw [List.take_succ_eq_append_getElem h, List.filter_append]
  simp [List.getD_eq_getElem?_getD, h, List.filter_cons]

theorem filter_all (l : List UInt8) : (l.filter inner).all inner = true := by
  rw [List.all_eq_true]
  intro x hx
  exact (List.mem_filter.1 hx).2

set_option maxRecDepth 100000 in
set_option maxHeartbeats 2000000 in
theorem walk (a : Option Addr) (n0 cap : Nat) (l : List UInt8) (w : World) (h : IsBytes w a n0 cap l) : Calls Try.prog 8 #[.slice a n0 cap] w fun e w' => e = .returned (.bool true) ∧ Below w.heap.size w w' := by
  obtain ⟨B, hB⟩ : ∃ B, w.heap.size = B := ⟨_, rfl⟩
  have hnc := h.1
  have hcm := h.2.1
  unfold maxLen at hcm
  have HLN := Lib.hid h.2.2.1
  have HC : Hid _ := h.2.2.2
  rw [hB] at HC
  clear h
  go_enter Try.func8, Try.ntmps8
  go_upto_region 2 with fail
  go_cut [19, 20, 21] (fun v19 v20 v21 w' => ∃ n : Nat, n ≤ 200 ∧ n ≤ n0 ∧ v19 = .slice a n cap ∧ v20 = .int .i64 n ∧ v21 = .int .i64 0 ∧ w = w')
  case first =>
    go_wp2_with fail
    all_goals (go_meet; exact ⟨min n0 200, by omega, by omega, by first | rfl | (congr 1; omega), congrArg (Value.int .i64) (by omega), rfl, rfl⟩)
  case rest =>
  obtain ⟨n, hn1, hn2, rfl, rfl, rfl, rfl⟩ := hcut
  go_wp2_with fail
  go_loopg [3, 21] n (fun g v3 v21 wr => ∃ i : Nat, i + g = n ∧ v21 = .int .i64 i ∧ v3 = .string ⟨((l.take i).filter inner).toArray⟩ ∧ Below B w wr)
  case atStart => exact ⟨0, by omega, rfl, rfl, Below.refl _ _⟩
  case round =>
    obtain ⟨i, hi, rfl, rfl, hbel⟩ := hrel
    obtain ⟨S, hS⟩ : ∃ S, (l.take i).filter inner = S := ⟨_, rfl⟩
    have hlen : S.length ≤ i := by
      rw [← hS]
      have := List.length_filter_le inner (l.take i)
      rw [List.length_take] at this
      omega
    have hBw : B ≤ wr.heap.size := by have := hbel.size; omega
    rw [hS]
    by_cases hlt : i < n
    · obtain ⟨bb, off, rfl, hblt, hc⟩ := HC.out i (by omega)
      have hx := (hbel.cell (p := ⟨bb, off + i, none⟩) hblt).trans hc
      have HNX : Hid ((l.take (i + 1)).filter inner = S ++ (if inner (l.getD i 0) then [l.getD i 0] else [])) := by
        show _ = _
        rw [filter_take (by have := HLN.out; omega), hS]
      obtain ⟨c, hcc⟩ : ∃ c, l.getD i 0 = c := ⟨_, rfl⟩
      rw [hcc] at hx HNX
      have HBEL := Lib.hid hbel
      have hsz : (⟨S.toArray⟩ : ByteArray).size ≤ 200 := by rw [str_size]; omega
      have hcv := conv_one wr c
      have hs1 : (⟨[c].toArray⟩ : ByteArray).size ≤ 1 := by rw [str_size]; simp
      have hin := inner_iff c
      obtain ⟨q, hq⟩ : ∃ q, c.toNat = q := ⟨_, rfl⟩
      rw [hq] at hx hin hcv
      obtain ⟨T, hT⟩ : ∃ T : ByteArray, ⟨S.toArray⟩ = T := ⟨_, rfl⟩
      obtain ⟨U, hU⟩ : ∃ U : ByteArray, ⟨[c].toArray⟩ = U := ⟨_, rfl⟩
      rw [hT] at hsz ⊢
      rw [hU] at hs1 hcv
      have HT := Lib.hid hT
      have HU := Lib.hid hU
      have HIN := Lib.hid hin
      clear hc hcc hbel hlen hS hT hU hin hq
      have no : Hid (inner c = false → T = ⟨((l.take (i + 1)).filter inner).toArray⟩) := fun h => by rw [HNX.out, h, ← HT.out]; simp
      have yes : Hid (inner c = true → T ++ U = ⟨((l.take (i + 1)).filter inner).toArray⟩) := fun h => by rw [HNX.out, h, ← HT.out, ← HU.out, str_append]; rfl
      have ino : Hid ((q = 34 ∨ q = 92 ∨ q = 91 ∨ q = 36) → inner c = false) := fun h => by
        cases hc : inner c
        · rfl
        · have := HIN.out.1 hc; omega
      clear HNX HT HU
      by_cases k1 : q = 34
      · subst k1
        clear HIN
        go_wp2_with fail
        go_roundg (n - (i + 1))
        case measure => omega
        case rel => exact ⟨i + 1, by omega, by go_num, congrArg Value.string (no.out (ino.out (by simp))), HBEL.out⟩
      · have z1 : ((q : Int) != 34) = true := by simp; omega
        by_cases k2 : q = 92
        · subst k2
          clear HIN
          go_wp2_with fail
          go_roundg (n - (i + 1))
          case measure => omega
          case rel => exact ⟨i + 1, by omega, by go_num, congrArg Value.string (no.out (ino.out (by simp))), HBEL.out⟩
        · have z2 : ((q : Int) != 92) = true := by simp; omega
          by_cases k3 : q = 91
          · subst k3
            clear HIN
            go_wp2_with fail
            go_roundg (n - (i + 1))
            case measure => omega
            case rel => exact ⟨i + 1, by omega, by go_num, congrArg Value.string (no.out (ino.out (by simp))), HBEL.out⟩
          · have z3 : ((q : Int) != 91) = true := by simp; omega
            by_cases k4 : q = 36
            · subst k4
              clear HIN
              go_wp2_with fail
              go_roundg (n - (i + 1))
              case measure => omega
              case rel => exact ⟨i + 1, by omega, by go_num, congrArg Value.string (no.out (ino.out (by simp))), HBEL.out⟩
            · have z4 : ((q : Int) != 36) = true := by simp; omega
              have HY : Hid (inner c = true) := HIN.out.2 ⟨k1, k2, k3, k4⟩
              clear HIN
              go_wp2_with fail
              go_roundg (n - (i + 1))
              case measure => omega
              case rel => exact ⟨i + 1, by omega, by go_num, congrArg Value.string (yes.out HY.out), HBEL.out.alloc hBw _⟩
    · have hin : i = n := by omega
      subst hin
      have hall : S.all inner = true := by rw [← hS]; exact filter_all _
      obtain ⟨k, hk⟩ : ∃ k, S.length = k := ⟨_, rfl⟩
      have hsz : (⟨S.toArray⟩ : ByteArray).size = k := by rw [str_size]; exact hk
      have e1 : (⟨#[34]⟩ : ByteArray) ++ ⟨S.toArray⟩ = ⟨(34 :: S).toArray⟩ := str_append [34] S
      have e2 : (⟨(34 :: S).toArray⟩ : ByteArray) ++ ⟨#[34]⟩ = ⟨(34 :: S ++ [34]).toArray⟩ := str_append (34 :: S) [34]
      have e3 : (⟨(34 :: S).toArray⟩ : ByteArray) ++ ⟨#[91]⟩ = ⟨(34 :: S ++ [91]).toArray⟩ := str_append (34 :: S) [91]
      have hs1 : (⟨(34 :: S).toArray⟩ : ByteArray).size = k + 1 := by rw [str_size]; simp; exact hk
      have hs2 : (⟨(34 :: S ++ [34]).toArray⟩ : ByteArray).size ≤ 202 := by rw [str_size]; simp; omega
      have hs3 : (⟨(34 :: S ++ [91]).toArray⟩ : ByteArray).size ≤ 202 := by rw [str_size]; simp; omega
      have HU1 : Hid (∀ w, Calls Try.prog 16 #[.string ⟨(34 :: S ++ [34]).toArray⟩] w (UnqPost w.heap.size w (S, 0, 0))) := fun w => by
        have := unquote_any ⟨(34 :: S ++ [34]).toArray⟩ w (by omega)
        have e : (⟨(34 :: S ++ [34]).toArray⟩ : ByteArray).data.toList = 34 :: S ++ [34] := List.toList_toArray
        rw [e, unq_inner S hall] at this
        exact this
      have HU2 : Hid (∀ w, Calls Try.prog 16 #[.string ⟨(34 :: S ++ [91]).toArray⟩] w (UnqPost w.heap.size w ([], 1 + (k : Int), 4))) := fun w => by
        have := unquote_any ⟨(34 :: S ++ [91]).toArray⟩ w (by omega)
        have e : (⟨(34 :: S ++ [91]).toArray⟩ : ByteArray).data.toList = 34 :: S ++ [91] := List.toList_toArray
        rw [e, unq_inner_bracket S hall, hk] at this
        exact this
      have HU3 : Hid (∀ w, Calls Try.prog 16 #[.string ⟨(34 :: S).toArray⟩] w (UnqPost w.heap.size w ([], 0, 5))) := fun w => by
        have := unquote_any ⟨(34 :: S).toArray⟩ w (by omega)
        have e : (⟨(34 :: S).toArray⟩ : ByteArray).data.toList = 34 :: S := List.toList_toArray
        rw [e, unq_inner_none S hall] at this
        exact this
      obtain ⟨T, hT⟩ : ∃ T : ByteArray, ⟨S.toArray⟩ = T := ⟨_, rfl⟩
      obtain ⟨T1, hT1⟩ : ∃ T : ByteArray, ⟨(34 :: S).toArray⟩ = T := ⟨_, rfl⟩
      obtain ⟨T2, hT2⟩ : ∃ T : ByteArray, ⟨(34 :: S ++ [34]).toArray⟩ = T := ⟨_, rfl⟩
      obtain ⟨T3, hT3⟩ : ∃ T : ByteArray, ⟨(34 :: S ++ [91]).toArray⟩ = T := ⟨_, rfl⟩
      rw [hT] at e1 hsz ⊢
      rw [hT1] at e1 e2 e3 hs1 HU3
      rw [hT2] at e2 HU1
      rw [hT3] at e3 HU2
      have HBEL := Lib.hid hbel
      have HT := Lib.hid hT
      clear hs2 hs3 hT1 hT2 hT3 hall hS hT hbel
      go_wp2_with fail
      refine Calls.mono (HU1.out wr) ?_
      rintro e w1 ⟨v, rfl, ho1, hb1⟩
      have hcv : (convert 22 9 v).run Try.prog w1 = .ok (.string T) w1 := by rw [← HT.out]; exact conv_own ho1
      have HB1 := Lib.hid (HBEL.out.trans (hb1.mono hBw))
      have hBw1 : B ≤ w1.heap.size := by have := hb1.size; omega
      clear ho1 hb1 HBEL
      go_wp2_with fail
      refine Calls.mono (HU2.out w1) ?_
      rintro e w2 ⟨v2, rfl, _, hb2⟩
      have HB2 := Lib.hid (HB1.out.trans (hb2.mono hBw1))
      have hBw2 : B ≤ w2.heap.size := by have := hb2.size; omega
      clear hb2 HB1 hcv
      go_wp2_with fail
      refine Calls.mono (HU3.out w2) ?_
      rintro e w3 ⟨v3, rfl, _, hb3⟩
      have HB3 := Lib.hid (HB2.out.trans (hb3.mono hBw2))
      have hBw3 : B ≤ w3.heap.size := by have := hb3.size; omega
      clear hb3 HB2
      go_wp2_with fail
      refine (alive_any w3).mono ?_
      rintro e w4 ⟨rfl, hb4⟩
      have HB4 := Lib.hid (HB3.out.trans (hb4.mono hBw3))
      clear hb4 HB3
      go_wp2_with fail
      go_ret
      rw [hB]
      exact ⟨rfl, HB4.out⟩

end Go.Proofs.Ythjaemocnlhkdaa.quoteInside
