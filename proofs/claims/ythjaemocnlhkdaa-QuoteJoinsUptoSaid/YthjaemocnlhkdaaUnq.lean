/-
  The walks of Unquote, the program's and the document's. Condition: the text takes less than 2^47 bytes.
-/
import Derived.Test.YthjaemocnlhkdaaREsc
import Derived.Test.YthjaemocnlhkdaaQuote
import Derived.Test.YthjaemocnlhkdaaName
namespace Go.Proofs.Ythjaemocnlhkdaa
open Go.RowKit

/-- Does a name's byte stand at a place? -/
def nameAt (l : List UInt8) (i : Nat) : Bool := match l[i]? with
  | some d => nameB d
  | none => false

/-- From place i on, with what was read. -/
def unqLoop (l : List UInt8) (i : Nat) (acc : List UInt8) : List UInt8 × Int × Int :=
  if h : i < l.length then
    if l[i].toNat = 34 then (if i + 1 < l.length then ([], i + 1, 4) else (acc, 0, 0))
    else if l[i].toNat = 91 then ([], i, 4)
    else if l[i].toNat = 36 ∧ nameAt l (i + 1) = true then ([], i, 4)
    else if l[i].toNat = 92 then
      (if (esc l i).2.2 = 0 then (if hn : i < (esc l i).2.1.toNat then unqLoop l (esc l i).2.1.toNat (acc ++ [(esc l i).1]) else ([], 0, 5)) else ([], 0, 5))
    else unqLoop l (i + 1) (acc ++ [l[i]])
  else ([], 0, 5)
termination_by l.length - i

/-- The bytes, the place, the error. -/
def unq (l : List UInt8) : List UInt8 × Int × Int := if l.head? = some 34 then unqLoop l 1 [] else ([], 0, 4)

/-- A row of bytes of the call's own. -/
def OwnB (w : World) (B : Nat) (v : Value) (l : List UInt8) : Prop := w.ownsRow B 5 1 v l.length (Lib.byteCells l)

/-- What both tell. -/
def UnqPost (B : Nat) (w : World) (r : List UInt8 × Int × Int) (e : Ending) (w' : World) : Prop :=
  ∃ v, e = .returned (.tuple #[v, .int .i64 r.2.1, .int .i64 r.2.2]) ∧ OwnB w' B v r.1 ∧ Below B w w'

theorem OwnB.nil (w : World) (B : Nat) : OwnB w B (.slice none 0 0) [] := World.ownsRow_nil _ _ _ _

/-- Where esc goes on. -/
theorem esc_next {s : ByteArray} {i : Nat} (h : i < s.size) (h92 : (s[i]).toNat = 92) (he : (esc s.data.toList i).2.2 = 0) : ∃ k : Nat, (esc s.data.toList i).2.1 = (i : Int) + k ∧ 1 < k ∧ k ≤ 4 := by
  have hr : ∀ (k : Nat) (l : List UInt8) (x : Nat), (run8 k l x).2 ≤ k := by
    intro k
    induction k with
    | zero => intro l x; simp [run8]
    | succ k ih =>
      intro l x
      cases l with
      | nil => simp [run8]
      | cons c l =>
        simp only [run8]
        split
        · have := ih l (8 * x + (c.toNat - 48))
          simp only
          omega
        · simp
  rw [esc_at h, drop_get h] at he ⊢
  by_cases h1 : i + 1 < s.size
  · rw [drop_get h1] at he ⊢
    simp only [h92, if_true] at he ⊢
    by_cases hd : digitB (s[i + 1]) = true
    · rw [hd]
      simp only [if_true]
      have h3 := hr 3 (s[i + 1] :: s.data.toList.drop (i + 1 + 1)) 0
      have h4 := run8_pos (t := s.data.toList.drop (i + 1 + 1)) hd
      exact ⟨1 + (run8 3 (s[i + 1] :: s.data.toList.drop (i + 1 + 1)) 0).2, by omega, by omega, by omega⟩
    · rw [Bool.not_eq_true] at hd
      rw [hd]
      exact ⟨2, rfl, by omega, by omega⟩
  · rw [List.drop_eq_nil_of_le (by simp; omega)] at he
    simp [h92] at he

/-- One round of the loop, told. -/
theorem unq_step (s : ByteArray) (i : Nat) (acc : List UInt8) (h : i < s.size) : unqLoop s.data.toList i acc =
    if (s[i]).toNat = 34 then (if i + 1 < s.size then ([], (i : Int) + 1, 4) else (acc, 0, 0))
    else if (s[i]).toNat = 91 then ([], (i : Int), 4)
    else if (s[i]).toNat = 36 ∧ nameAt s.data.toList (i + 1) = true then ([], (i : Int), 4)
    else if (s[i]).toNat = 92 then
      (if (esc s.data.toList i).2.2 = 0 then (if i < (esc s.data.toList i).2.1.toNat then unqLoop s.data.toList (esc s.data.toList i).2.1.toNat (acc ++ [(esc s.data.toList i).1]) else ([], 0, 5)) else ([], 0, 5))
    else unqLoop s.data.toList (i + 1) (acc ++ [s[i]]) := by
  have hl : i < s.data.toList.length := by simpa using h
  have hg : s.data.toList[i] = s[i] := by simp; rfl
  rw [unqLoop, dif_pos hl, hg]
  simp only [Array.length_toList, dite_eq_ite]
  rfl

theorem unq_end (s : ByteArray) (i : Nat) (acc : List UInt8) (h : ¬ i < s.size) : unqLoop s.data.toList i acc = ([], 0, 5) := by
  rw [unqLoop, dif_neg (by simpa using h)]

/-- The end of a walk. -/
theorem unquote_done {B : Nat} {w w' : World} {v : Value} {R : List UInt8 × Int × Int} {a b : Int} {l : List UInt8} (hR : R = (l, a, b)) (ho : OwnB w' B v l) (hb : Below B w w') : UnqPost B w R (.returned (.tuple #[v, .int .i64 a, .int .i64 b])) w' := by
  subst hR
  exact ⟨v, rfl, ho, hb⟩

theorem head_size {s : ByteArray} (h : s.data.toList.head? = some 34) : 1 ≤ s.size := by
  cases hl : s.data.toList with
  | nil => rw [hl] at h; simp at h
  | cons x t =>
    have := congrArg List.length hl
    simp at this
    have e : s.size = s.data.size := rfl
    omega

theorem head_drop {s : ByteArray} (h : 0 < s.size) : s.data.toList.head? = some s[0] := by
  have := drop_get h
  rw [List.drop_zero] at this
  rw [this]
  rfl

theorem head_get {s : ByteArray} (h : s.data.toList.head? = some 34) (h0 : 1 ≤ s.size) : s[0] = 34 := by
  rw [head_drop (by omega)] at h
  simpa using h

theorem head_of {s : ByteArray} {c : UInt8} (h0 : 0 < s.size) (hc : s[0] = c) (h : c.toNat = 34) : s.data.toList.head? = some 34 := by
  rw [head_drop h0, hc]
  congr 1
  exact UInt8.toNat_inj.1 h

theorem prefix_head (s : ByteArray) : Lib.hasPrefix s.data.toList (⟨#[34]⟩ : ByteArray).data.toList = decide (s.data.toList.head? = some 34) := by
  unfold Lib.hasPrefix
  cases s.data.toList with
  | nil => rfl
  | cons x t =>
    simp only [List.isPrefixOf, List.head?_cons, Option.some.injEq, Bool.and_true]
    by_cases h : x = 34
    · subst h; rfl
    · rw [decide_eq_false h]
      simpa using fun e => h e.symm

theorem nameAt_get {s : ByteArray} {i : Nat} {d : UInt8} (h : i < s.size) (hd : s[i] = d) : nameAt s.data.toList i = nameB d := by
  have : s.data.toList[i]? = some d := by
    rw [← hd, ← List.head?_drop, drop_get h]
    rfl
  unfold nameAt
  rw [this]

theorem nameAt_none {s : ByteArray} {i : Nat} (h : ¬ i < s.size) : nameAt s.data.toList i = false := by
  have : s.data.toList[i]? = none := by have h2 : ¬ i < s.data.size := h; simp; omega
  unfold nameAt
  rw [this]

set_option maxRecDepth 100000 in
set_option maxHeartbeats 8000000 in
theorem unquote_any (s : ByteArray) (w : World) (hs : s.size < 140737488355328) : Calls Try.prog 16 #[.string s] w (UnqPost w.heap.size w (unq s.data.toList)) := by
  obtain ⟨i0, hi, hz0, hz1, hz2⟩ := info_parts infoByte
  obtain ⟨B, hB⟩ : ∃ B, w.heap.size = B := ⟨_, rfl⟩
  obtain ⟨R, hR0⟩ : ∃ R, unq s.data.toList = R := ⟨_, rfl⟩
  rw [hB, hR0]
  have HBw : Hid (Below B w w) := Below.refl _ _
  have hp := Try.strings_HasPrefix s ⟨#[34]⟩ w
  have hpe := prefix_head s
  by_cases hh : s.data.toList.head? = some 34
  · have hR : unqLoop s.data.toList 1 [] = R := by rw [← hR0]; unfold unq; rw [if_pos hh]
    have hsz : 1 ≤ s.size := head_size hh
    rw [hpe, decide_eq_true hh] at hp
    have HP := Lib.hid hp
    have HR := Lib.hid hR
    clear hp hpe hh hR hR0
    go_enter Try.func16, Try.ntmps16
    go_wp2_with fail
    refine Calls.mono HP.out ?_
    rintro e w2 ⟨rfl, rfl⟩
    go_wp2_with fail
    go_loopg [5, 6] (s.size + 3) (fun g v5 v6 wr => ∃ (i : Nat) (acc : List UInt8) (v : Value), i + g = s.size + 4 ∧ 1 ≤ i ∧ v6 = .int .i64 i ∧ v5 = v ∧ OwnB wr B v acc ∧ Below B w2 wr ∧ acc.length + 1 ≤ i ∧ unqLoop s.data.toList i acc = R)
    case atStart => exact ⟨1, [], _, by omega, by omega, rfl, rfl, OwnB.nil _ _, HBw.out, by simp, HR.out⟩
    case round =>
      obtain ⟨i, acc, v, hig, hi1, rfl, rfl, hown, hbel, hacc, hun⟩ := hrel
      clear HR HBw
      have hBw : B ≤ wr.heap.size := by have := hbel.size; omega
      obtain ⟨m, hm⟩ : ∃ m, acc.length = m := ⟨_, rfl⟩
      unfold OwnB at hown
      rw [hm] at hacc hown
      obtain ⟨sp, sc, rfl⟩ : ∃ sp sc, u5 = .slice sp m sc := by
        rcases hown.2 with ⟨e, h0⟩ | ⟨g, cap, cur, e, _⟩
        · exact ⟨none, 0, by rw [e, h0]⟩
        · exact ⟨_, _, e⟩
      have HM := Lib.hid hm
      have HOWN := Lib.hid hown
      have HBEL := Lib.hid hbel
      clear hown hbel hm
      by_cases hlt : i < s.size
      · have hst := unq_step s i acc hlt
        rw [hun] at hst
        obtain ⟨c, hc⟩ : ∃ c, s[i] = c := ⟨_, rfl⟩
        rw [hc] at hst
        obtain ⟨q, hq⟩ : ∃ q, c.toNat = q := ⟨_, rfl⟩
        rw [hq] at hst
        have HST := Lib.hid hst
        have hq8 := c.toNat_lt
        rw [hq] at hq8
        clear hst hun
        by_cases k34 : q = 34
        · subst k34
          by_cases hend : i + 1 < s.size
          · have HR1 : Hid (R = ([], (i : Int) + 1, 4)) := by show _ = _; rw [HST.out, if_pos rfl, if_pos hend]
            have ze : ((i : Int) + 1 != (s.size : Int)) = true := by simp; omega
            clear HST
            go_wp2_with fail
            go_ret3
            exact unquote_done HR1.out (OwnB.nil _ _) HBEL.out
          · have HR1 : Hid (R = (acc, 0, 0)) := by show _ = _; rw [HST.out, if_pos rfl, if_neg hend]
            have ze : ((i : Int) + 1 != (s.size : Int)) = false := by simp; omega
            clear HST
            go_wp2_with fail
            go_ret3
            exact unquote_done HR1.out (by unfold OwnB; rw [HM.out]; exact HOWN.out) HBEL.out
        · have z34 : ((q : Int) == 34) = false := by simp; omega
          by_cases k91 : q = 91
          · subst k91
            have HR1 : Hid (R = ([], (i : Int), 4)) := by show _ = _; rw [HST.out, if_neg k34, if_pos rfl]
            clear HST
            go_wp2_with fail
            go_ret3
            exact unquote_done HR1.out (OwnB.nil _ _) HBEL.out
          · have z91 : ((q : Int) == 91) = false := by simp; omega
            by_cases k36 : q = 36
            · subst k36
              by_cases hend : i + 1 < s.size
              · obtain ⟨d, hd⟩ : ∃ d, s[i + 1] = d := ⟨_, rfl⟩
                have hna : nameAt s.data.toList (i + 1) = nameB d := nameAt_get hend hd
                by_cases hnb : nameB d = true
                · have HR1 : Hid (R = ([], (i : Int), 4)) := by show _ = _; rw [HST.out, if_neg k34, if_neg k91, if_pos ⟨rfl, hna.trans hnb⟩]
                  have HNB := Lib.hid hnb
                  clear HST hna hnb
                  go_wp2_with fail
                  refine (name_any d _).mono ?_
                  rintro e w4 ⟨rfl, rfl⟩
                  rw [HNB.out]
                  go_wp2_with fail
                  go_ret3
                  exact unquote_done HR1.out (OwnB.nil _ _) HBEL.out
                · have HR1 : Hid (R = unqLoop s.data.toList (i + 1) (acc ++ [c])) := by show _ = _; rw [HST.out, if_neg k34, if_neg k91, if_neg (fun h => hnb (hna.symm.trans h.2)), if_neg (by omega)]
                  rw [Bool.not_eq_true] at hnb
                  have HNB := Lib.hid hnb
                  clear HST hna hnb
                  go_wp2_with fail
                  refine (name_any d _).mono ?_
                  rintro e w4 ⟨rfl, rfl⟩
                  rw [HNB.out]
                  go_wp2_with (at_builtin; refine wpList_append_own _ rfl _ _ 22 rfl B 5 i0 (.int .u8 0) 1 1 Try.underlying22 hi hz0 hz1 hz2 rfl (by decide) _ _ _ rfl (HOWN.out.alloc _) ⟨wr.heap.size, 0, none⟩ 1 1 [.int .u8 (36 : Int)] rfl rfl (cell_one_new _ _ _) (by simp [Value.oneCell']) (by unfold maxLen; omega) (by omega) (by simp; omega) ?_; intro v' w3 hown' hgrow _)
                  have hb3 : Below B w2 w3 := (HBEL.out.alloc hBw _).grown hgrow (by simp; omega) (fun j hj => (HOWN.out.lt j hj).1)
                  have ho3 : OwnB w3 B v' (acc ++ [c]) := by
                    unfold OwnB
                    rw [List.length_append, Lib.byteCells_append, HM.out]
                    have := hown'; rw [show (36 : Int) = ((c.toNat : Nat) : Int) from by rw [hq]; rfl] at this; exact this
                  have HO3 := Lib.hid ho3
                  have HB3 := Lib.hid hb3
                  clear hb3 ho3 hown' hgrow
                  go_wp2_with fail
                  go_roundg (s.size + 4 - (i + 1))
                  case measure => omega
                  case rel => exact ⟨(i + 1), acc ++ [c], v', by omega, by omega, by go_num, rfl, HO3.out, HB3.out, by rw [List.length_append, HM.out]; simp; omega, HR1.out.symm⟩
              · have hna : nameAt s.data.toList (i + 1) = false := nameAt_none hend
                have HR1 : Hid (R = unqLoop s.data.toList (i + 1) (acc ++ [c])) := by show _ = _; rw [HST.out, if_neg k34, if_neg k91, if_neg (fun h => by rw [hna] at h; exact absurd h.2 (by decide)), if_neg (by omega)]
                clear HST hna
                go_wp2_with (at_builtin; refine wpList_append_own _ rfl _ _ 22 rfl B 5 i0 (.int .u8 0) 1 1 Try.underlying22 hi hz0 hz1 hz2 rfl (by decide) _ _ _ rfl (HOWN.out.alloc _) ⟨wr.heap.size, 0, none⟩ 1 1 [.int .u8 (36 : Int)] rfl rfl (cell_one_new _ _ _) (by simp [Value.oneCell']) (by unfold maxLen; omega) (by omega) (by simp; omega) ?_; intro v' w3 hown' hgrow _)
                have hb3 : Below B w2 w3 := (HBEL.out.alloc hBw _).grown hgrow (by simp; omega) (fun j hj => (HOWN.out.lt j hj).1)
                have ho3 : OwnB w3 B v' (acc ++ [c]) := by
                  unfold OwnB
                  rw [List.length_append, Lib.byteCells_append, HM.out]
                  have := hown'; rw [show (36 : Int) = ((c.toNat : Nat) : Int) from by rw [hq]; rfl] at this; exact this
                have HO3 := Lib.hid ho3
                have HB3 := Lib.hid hb3
                clear hb3 ho3 hown' hgrow
                go_wp2_with fail
                go_roundg (s.size + 4 - (i + 1))
                case measure => omega
                case rel => exact ⟨(i + 1), acc ++ [c], v', by omega, by omega, by go_num, rfl, HO3.out, HB3.out, by rw [List.length_append, HM.out]; simp; omega, HR1.out.symm⟩
            · have z36 : ((q : Int) == 36) = false := by simp; omega
              by_cases k92 : q = 92
              · subst k92
                obtain ⟨x, nx, er, hesc⟩ : ∃ x nx er, esc s.data.toList i = (x, nx, er) := ⟨_, _, _, rfl⟩
                have HES := Lib.hid (escape_any s (i : Int) (by omega) wr)
                rw [hesc, show escV (x, nx, er) = .tuple #[.int .u8 (x.toNat : Int), .int .i64 nx, .int .i64 er] from rfl] at HES
                have hst := HST.out
                rw [if_neg k34, if_neg k91, if_neg (fun h => k36 h.1), if_pos rfl, hesc] at hst
                by_cases her : er = 0
                · subst her
                  obtain ⟨k, hk1, hk2, hk3⟩ := esc_next hlt (by rw [hc, hq]) (by rw [hesc])
                  rw [hesc] at hk1
                  have hnx : nx = ((i + k : Nat) : Int) := by rw [show nx = (i : Int) + k from hk1]; omega
                  subst hnx
                  have HR1 : Hid (R = unqLoop s.data.toList (i + k) (acc ++ [x])) := by show _ = _; rw [hst, if_pos rfl, if_pos (show i < (((i + k : Nat) : Int)).toNat by omega), Int.toNat_natCast]
                  clear hst HST hesc hk1
                  go_wp2_with fail
                  refine Calls.mono HES.out ?_
                  rintro e w4 ⟨rfl, rfl⟩
                  go_wp2_with (at_builtin; refine wpList_append_own _ rfl _ _ 22 rfl B 5 i0 (.int .u8 0) 1 1 Try.underlying22 hi hz0 hz1 hz2 rfl (by decide) _ _ _ rfl (HOWN.out.alloc _) ⟨wr.heap.size, 0, none⟩ 1 1 [.int .u8 (x.toNat : Int)] rfl rfl (cell_one_new _ _ _) (by simp [Value.oneCell']) (by unfold maxLen; omega) (by omega) (by simp; omega) ?_; intro v' w3 hown' hgrow _)
                  have hb3 : Below B w2 w3 := (HBEL.out.alloc hBw _).grown hgrow (by simp; omega) (fun j hj => (HOWN.out.lt j hj).1)
                  have ho3 : OwnB w3 B v' (acc ++ [x]) := by
                    unfold OwnB
                    rw [List.length_append, Lib.byteCells_append, HM.out]
                    exact hown'
                  have HO3 := Lib.hid ho3
                  have HB3 := Lib.hid hb3
                  clear hb3 ho3 hown' hgrow
                  go_wp2_with fail
                  go_roundg (s.size + 4 - (i + k))
                  case measure => omega
                  case rel => exact ⟨(i + k), acc ++ [x], v', by omega, by omega, by first | rfl | go_num, rfl, HO3.out, HB3.out, by rw [List.length_append, HM.out]; simp; omega, HR1.out.symm⟩
                · have HR1 : Hid (R = ([], 0, 5)) := by show _ = _; rw [hst, if_neg her]
                  have ze : (er == 0) = false := by simpa using her
                  clear hst HST hesc
                  go_wp2_with fail
                  refine Calls.mono HES.out ?_
                  rintro e w4 ⟨rfl, rfl⟩
                  go_wp2_with fail
                  go_ret3
                  exact unquote_done HR1.out (OwnB.nil _ _) HBEL.out
              · have z92 : ((q : Int) == 92) = false := by simp; omega
                have HR1 : Hid (R = unqLoop s.data.toList (i + 1) (acc ++ [c])) := by show _ = _; rw [HST.out, if_neg k34, if_neg k91, if_neg (fun h => k36 h.1), if_neg k92]
                clear HST
                go_wp2_with (at_builtin; refine wpList_append_own _ rfl _ _ 22 rfl B 5 i0 (.int .u8 0) 1 1 Try.underlying22 hi hz0 hz1 hz2 rfl (by decide) _ _ _ rfl (HOWN.out.alloc _) ⟨wr.heap.size, 0, none⟩ 1 1 [.int .u8 (q : Int)] rfl rfl (cell_one_new _ _ _) (by simp [Value.oneCell']) (by unfold maxLen; omega) (by omega) (by simp; omega) ?_; intro v' w3 hown' hgrow _)
                have hb3 : Below B w2 w3 := (HBEL.out.alloc hBw _).grown hgrow (by simp; omega) (fun j hj => (HOWN.out.lt j hj).1)
                have ho3 : OwnB w3 B v' (acc ++ [c]) := by
                  unfold OwnB
                  rw [List.length_append, Lib.byteCells_append, HM.out]
                  exact by have := hown'; rw [← hq] at this; exact this
                have HO3 := Lib.hid ho3
                have HB3 := Lib.hid hb3
                clear hb3 ho3 hown' hgrow
                go_wp2_with fail
                go_roundg (s.size + 4 - (i + 1))
                case measure => omega
                case rel => exact ⟨(i + 1), acc ++ [c], v', by omega, by omega, by go_num, rfl, HO3.out, HB3.out, by rw [List.length_append, HM.out]; simp; omega, HR1.out.symm⟩
      · rw [unq_end s i acc hlt] at hun
        have HR1 : Hid (R = ([], 0, 5)) := hun.symm
        clear hun
        go_wp2_with fail
        go_ret3
        exact unquote_done HR1.out (OwnB.nil _ _) HBEL.out
  · have HR1 : Hid (R = ([], 0, 4)) := by show _ = _; rw [← hR0]; unfold unq; rw [if_neg hh]
    rw [hpe, decide_eq_false hh] at hp
    have HP := Lib.hid hp
    clear hp hpe hh hR0
    go_enter Try.func16, Try.ntmps16
    go_wp2_with fail
    refine Calls.mono HP.out ?_
    rintro e w2 ⟨rfl, rfl⟩
    go_wp2_with fail
    go_ret3
    exact unquote_done HR1.out (OwnB.nil _ _) HBw.out

set_option maxRecDepth 100000 in
set_option maxHeartbeats 8000000 in
theorem ref_unquote_any (s : ByteArray) (w : World) (hs : s.size < 140737488355328) : Calls Try.prog 17 #[.string s] w (UnqPost w.heap.size w (unq s.data.toList)) := by
  obtain ⟨i0, hi, hz0, hz1, hz2⟩ := info_parts infoByte
  obtain ⟨B, hB⟩ : ∃ B, w.heap.size = B := ⟨_, rfl⟩
  obtain ⟨R, hR0⟩ : ∃ R, unq s.data.toList = R := ⟨_, rfl⟩
  rw [hB, hR0]
  have HBw : Hid (Below B w w) := Below.refl _ _
  by_cases hh : s.data.toList.head? = some 34
  · have hR : unqLoop s.data.toList 1 [] = R := by rw [← hR0]; unfold unq; rw [if_pos hh]
    have hsz : 1 ≤ s.size := head_size hh
    have h34 : s[0] = 34 := head_get hh hsz
    have z1 : ((s.size : Int) == 0) = false := beq_eq_false_iff_ne.2 (by omega)
    have HR := Lib.hid hR
    clear hh hR hR0
    go_enter Try.func17, Try.ntmps17
    go_wp2_with fail
    go_loopg [5, 6] (s.size + 3) (fun g v5 v6 wr => ∃ (i : Nat) (acc : List UInt8) (v : Value), i + g = s.size + 4 ∧ 1 ≤ i ∧ v6 = .int .i64 i ∧ v5 = v ∧ OwnB wr B v acc ∧ Below B w wr ∧ acc.length + 1 ≤ i ∧ unqLoop s.data.toList i acc = R)
    case atStart => exact ⟨1, [], _, by omega, by omega, rfl, rfl, OwnB.nil _ _, HBw.out, by simp, HR.out⟩
    case round =>
      obtain ⟨i, acc, v, hig, hi1, rfl, rfl, hown, hbel, hacc, hun⟩ := hrel
      clear HR HBw
      have hBw : B ≤ wr.heap.size := by have := hbel.size; omega
      obtain ⟨m, hm⟩ : ∃ m, acc.length = m := ⟨_, rfl⟩
      unfold OwnB at hown
      rw [hm] at hacc hown
      obtain ⟨sp, sc, rfl⟩ : ∃ sp sc, u5 = .slice sp m sc := by
        rcases hown.2 with ⟨e, h0⟩ | ⟨g, cap, cur, e, _⟩
        · exact ⟨none, 0, by rw [e, h0]⟩
        · exact ⟨_, _, e⟩
      have HM := Lib.hid hm
      have HOWN := Lib.hid hown
      have HBEL := Lib.hid hbel
      clear hown hbel hm
      by_cases hlt : i < s.size
      · have hst := unq_step s i acc hlt
        rw [hun] at hst
        obtain ⟨c, hc⟩ : ∃ c, s[i] = c := ⟨_, rfl⟩
        rw [hc] at hst
        obtain ⟨q, hq⟩ : ∃ q, c.toNat = q := ⟨_, rfl⟩
        rw [hq] at hst
        have HST := Lib.hid hst
        have hq8 := c.toNat_lt
        rw [hq] at hq8
        clear hst hun
        by_cases k34 : q = 34
        · subst k34
          by_cases hend : i + 1 < s.size
          · have HR1 : Hid (R = ([], (i : Int) + 1, 4)) := by show _ = _; rw [HST.out, if_pos rfl, if_pos hend]
            have ze : ((i : Int) + 1 != (s.size : Int)) = true := by simp; omega
            clear HST
            go_wp2_with fail
            go_ret3
            exact unquote_done HR1.out (OwnB.nil _ _) HBEL.out
          · have HR1 : Hid (R = (acc, 0, 0)) := by show _ = _; rw [HST.out, if_pos rfl, if_neg hend]
            have ze : ((i : Int) + 1 != (s.size : Int)) = false := by simp; omega
            clear HST
            go_wp2_with fail
            go_ret3
            exact unquote_done HR1.out (by unfold OwnB; rw [HM.out]; exact HOWN.out) HBEL.out
        · have z34 : ((q : Int) == 34) = false := by simp; omega
          by_cases k91 : q = 91
          · subst k91
            have HR1 : Hid (R = ([], (i : Int), 4)) := by show _ = _; rw [HST.out, if_neg k34, if_pos rfl]
            clear HST
            go_wp2_with fail
            go_ret3
            exact unquote_done HR1.out (OwnB.nil _ _) HBEL.out
          · have z91 : ((q : Int) == 91) = false := by simp; omega
            by_cases k36 : q = 36
            · subst k36
              by_cases hend : i + 1 < s.size
              · obtain ⟨d, hd⟩ : ∃ d, s[i + 1] = d := ⟨_, rfl⟩
                have hna : nameAt s.data.toList (i + 1) = nameB d := nameAt_get hend hd
                by_cases hnb : nameB d = true
                · have HR1 : Hid (R = ([], (i : Int), 4)) := by show _ = _; rw [HST.out, if_neg k34, if_neg k91, if_pos ⟨rfl, hna.trans hnb⟩]
                  have HNB := Lib.hid hnb
                  clear HST hna hnb
                  go_wp2_with fail
                  refine (ref_name d _).mono ?_
                  rintro e w4 ⟨rfl, rfl⟩
                  rw [HNB.out]
                  go_wp2_with fail
                  go_ret3
                  exact unquote_done HR1.out (OwnB.nil _ _) HBEL.out
                · have HR1 : Hid (R = unqLoop s.data.toList (i + 1) (acc ++ [c])) := by show _ = _; rw [HST.out, if_neg k34, if_neg k91, if_neg (fun h => hnb (hna.symm.trans h.2)), if_neg (by omega)]
                  rw [Bool.not_eq_true] at hnb
                  have HNB := Lib.hid hnb
                  clear HST hna hnb
                  go_wp2_with fail
                  refine (ref_name d _).mono ?_
                  rintro e w4 ⟨rfl, rfl⟩
                  rw [HNB.out]
                  go_wp2_with (at_builtin; refine wpList_append_own _ rfl _ _ 22 rfl B 5 i0 (.int .u8 0) 1 1 Try.underlying22 hi hz0 hz1 hz2 rfl (by decide) _ _ _ rfl (HOWN.out.alloc _) ⟨wr.heap.size, 0, none⟩ 1 1 [.int .u8 (36 : Int)] rfl rfl (cell_one_new _ _ _) (by simp [Value.oneCell']) (by unfold maxLen; omega) (by omega) (by simp; omega) ?_; intro v' w3 hown' hgrow _)
                  have hb3 : Below B w w3 := (HBEL.out.alloc hBw _).grown hgrow (by simp; omega) (fun j hj => (HOWN.out.lt j hj).1)
                  have ho3 : OwnB w3 B v' (acc ++ [c]) := by
                    unfold OwnB
                    rw [List.length_append, Lib.byteCells_append, HM.out]
                    have := hown'; rw [show (36 : Int) = ((c.toNat : Nat) : Int) from by rw [hq]; rfl] at this; exact this
                  have HO3 := Lib.hid ho3
                  have HB3 := Lib.hid hb3
                  clear hb3 ho3 hown' hgrow
                  go_wp2_with fail
                  go_roundg (s.size + 4 - (i + 1))
                  case measure => omega
                  case rel => exact ⟨(i + 1), acc ++ [c], v', by omega, by omega, by go_num, rfl, HO3.out, HB3.out, by rw [List.length_append, HM.out]; simp; omega, HR1.out.symm⟩
              · have hna : nameAt s.data.toList (i + 1) = false := nameAt_none hend
                have HR1 : Hid (R = unqLoop s.data.toList (i + 1) (acc ++ [c])) := by show _ = _; rw [HST.out, if_neg k34, if_neg k91, if_neg (fun h => by rw [hna] at h; exact absurd h.2 (by decide)), if_neg (by omega)]
                clear HST hna
                go_wp2_with (at_builtin; refine wpList_append_own _ rfl _ _ 22 rfl B 5 i0 (.int .u8 0) 1 1 Try.underlying22 hi hz0 hz1 hz2 rfl (by decide) _ _ _ rfl (HOWN.out.alloc _) ⟨wr.heap.size, 0, none⟩ 1 1 [.int .u8 (36 : Int)] rfl rfl (cell_one_new _ _ _) (by simp [Value.oneCell']) (by unfold maxLen; omega) (by omega) (by simp; omega) ?_; intro v' w3 hown' hgrow _)
                have hb3 : Below B w w3 := (HBEL.out.alloc hBw _).grown hgrow (by simp; omega) (fun j hj => (HOWN.out.lt j hj).1)
                have ho3 : OwnB w3 B v' (acc ++ [c]) := by
                  unfold OwnB
                  rw [List.length_append, Lib.byteCells_append, HM.out]
                  have := hown'; rw [show (36 : Int) = ((c.toNat : Nat) : Int) from by rw [hq]; rfl] at this; exact this
                have HO3 := Lib.hid ho3
                have HB3 := Lib.hid hb3
                clear hb3 ho3 hown' hgrow
                go_wp2_with fail
                go_roundg (s.size + 4 - (i + 1))
                case measure => omega
                case rel => exact ⟨(i + 1), acc ++ [c], v', by omega, by omega, by go_num, rfl, HO3.out, HB3.out, by rw [List.length_append, HM.out]; simp; omega, HR1.out.symm⟩
            · have z36 : ((q : Int) == 36) = false := by simp; omega
              by_cases k92 : q = 92
              · subst k92
                obtain ⟨x, nx, er, hesc⟩ : ∃ x nx er, esc s.data.toList i = (x, nx, er) := ⟨_, _, _, rfl⟩
                have HES := Lib.hid (ref_escape_any s (i : Int) (by omega) wr)
                rw [hesc, show escV (x, nx, er) = .tuple #[.int .u8 (x.toNat : Int), .int .i64 nx, .int .i64 er] from rfl] at HES
                have hst := HST.out
                rw [if_neg k34, if_neg k91, if_neg (fun h => k36 h.1), if_pos rfl, hesc] at hst
                by_cases her : er = 0
                · subst her
                  obtain ⟨k, hk1, hk2, hk3⟩ := esc_next hlt (by rw [hc, hq]) (by rw [hesc])
                  rw [hesc] at hk1
                  have hnx : nx = ((i + k : Nat) : Int) := by rw [show nx = (i : Int) + k from hk1]; omega
                  subst hnx
                  have HR1 : Hid (R = unqLoop s.data.toList (i + k) (acc ++ [x])) := by show _ = _; rw [hst, if_pos rfl, if_pos (show i < (((i + k : Nat) : Int)).toNat by omega), Int.toNat_natCast]
                  clear hst HST hesc hk1
                  go_wp2_with fail
                  refine Calls.mono HES.out ?_
                  rintro e w4 ⟨rfl, rfl⟩
                  go_wp2_with (at_builtin; refine wpList_append_own _ rfl _ _ 22 rfl B 5 i0 (.int .u8 0) 1 1 Try.underlying22 hi hz0 hz1 hz2 rfl (by decide) _ _ _ rfl (HOWN.out.alloc _) ⟨wr.heap.size, 0, none⟩ 1 1 [.int .u8 (x.toNat : Int)] rfl rfl (cell_one_new _ _ _) (by simp [Value.oneCell']) (by unfold maxLen; omega) (by omega) (by simp; omega) ?_; intro v' w3 hown' hgrow _)
                  have hb3 : Below B w w3 := (HBEL.out.alloc hBw _).grown hgrow (by simp; omega) (fun j hj => (HOWN.out.lt j hj).1)
                  have ho3 : OwnB w3 B v' (acc ++ [x]) := by
                    unfold OwnB
                    rw [List.length_append, Lib.byteCells_append, HM.out]
                    exact hown'
                  have HO3 := Lib.hid ho3
                  have HB3 := Lib.hid hb3
                  clear hb3 ho3 hown' hgrow
                  go_wp2_with fail
                  go_roundg (s.size + 4 - (i + k))
                  case measure => omega
                  case rel => exact ⟨(i + k), acc ++ [x], v', by omega, by omega, by first | rfl | go_num, rfl, HO3.out, HB3.out, by rw [List.length_append, HM.out]; simp; omega, HR1.out.symm⟩
                · have HR1 : Hid (R = ([], 0, 5)) := by show _ = _; rw [hst, if_neg her]
                  have ze : (er == 0) = false := by simpa using her
                  clear hst HST hesc
                  go_wp2_with fail
                  refine Calls.mono HES.out ?_
                  rintro e w4 ⟨rfl, rfl⟩
                  go_wp2_with fail
                  go_ret3
                  exact unquote_done HR1.out (OwnB.nil _ _) HBEL.out
              · have z92 : ((q : Int) == 92) = false := by simp; omega
                have HR1 : Hid (R = unqLoop s.data.toList (i + 1) (acc ++ [c])) := by show _ = _; rw [HST.out, if_neg k34, if_neg k91, if_neg (fun h => k36 h.1), if_neg k92]
                clear HST
                go_wp2_with (at_builtin; refine wpList_append_own _ rfl _ _ 22 rfl B 5 i0 (.int .u8 0) 1 1 Try.underlying22 hi hz0 hz1 hz2 rfl (by decide) _ _ _ rfl (HOWN.out.alloc _) ⟨wr.heap.size, 0, none⟩ 1 1 [.int .u8 (q : Int)] rfl rfl (cell_one_new _ _ _) (by simp [Value.oneCell']) (by unfold maxLen; omega) (by omega) (by simp; omega) ?_; intro v' w3 hown' hgrow _)
                have hb3 : Below B w w3 := (HBEL.out.alloc hBw _).grown hgrow (by simp; omega) (fun j hj => (HOWN.out.lt j hj).1)
                have ho3 : OwnB w3 B v' (acc ++ [c]) := by
                  unfold OwnB
                  rw [List.length_append, Lib.byteCells_append, HM.out]
                  exact by have := hown'; rw [← hq] at this; exact this
                have HO3 := Lib.hid ho3
                have HB3 := Lib.hid hb3
                clear hb3 ho3 hown' hgrow
                go_wp2_with fail
                go_roundg (s.size + 4 - (i + 1))
                case measure => omega
                case rel => exact ⟨(i + 1), acc ++ [c], v', by omega, by omega, by go_num, rfl, HO3.out, HB3.out, by rw [List.length_append, HM.out]; simp; omega, HR1.out.symm⟩
      · rw [unq_end s i acc hlt] at hun
        have HR1 : Hid (R = ([], 0, 5)) := hun.symm
        clear hun
        go_wp2_with fail
        go_ret3
        exact unquote_done HR1.out (OwnB.nil _ _) HBEL.out
  · have HR1 : Hid (R = ([], 0, 4)) := by show _ = _; rw [← hR0]; unfold unq; rw [if_neg hh]
    by_cases h0 : s.size = 0
    · have z1 : ((s.size : Int) == 0) = true := beq_iff_eq.2 (by omega)
      clear hh hR0
      go_enter Try.func17, Try.ntmps17
      go_wp2_with fail
      go_ret3
      exact unquote_done HR1.out (OwnB.nil _ _) HBw.out
    · have z1 : ((s.size : Int) == 0) = false := beq_eq_false_iff_ne.2 (by omega)
      obtain ⟨c, hc⟩ : ∃ c, s[0]'(by omega) = c := ⟨_, rfl⟩
      have hc34 : c.toNat ≠ 34 := fun e => hh (head_of (by omega) hc e)
      obtain ⟨q, hq⟩ : ∃ q, c.toNat = q := ⟨_, rfl⟩
      rw [hq] at hc34
      have z2 : ((q : Int) != 34) = true := by simp; omega
      clear hh hR0
      go_enter Try.func17, Try.ntmps17
      go_wp2_with fail
      go_ret3
      exact unquote_done HR1.out (OwnB.nil _ _) HBw.out

end Go.Proofs.Ythjaemocnlhkdaa
