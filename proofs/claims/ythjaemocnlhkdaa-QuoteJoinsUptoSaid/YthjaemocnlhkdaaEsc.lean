/-
  The walks of Escape, the program's and the document's. Condition: the text takes at most 2^47 bytes.
-/
import Derived.Test.YthjaemocnlhkdaaBase
namespace Go.Proofs.Ythjaemocnlhkdaa
open Go.RowKit

/-- Is a byte a digit to the base 8? -/
def digitB (c : UInt8) : Bool := decide (48 ≤ c.toNat) && decide (c.toNat ≤ 55)

theorem digit_any (c : UInt8) (w : World) : Calls Try.prog 27 #[.int .u8 (c.toNat : Int)] w fun e w' => e = .returned (.bool (digitB c)) ∧ w = w' := by
  unfold digitB
  obtain ⟨n, hn⟩ : ∃ n, c.toNat = n := ⟨_, rfl⟩
  rw [hn]
  clear hn
  by_cases h1 : 48 ≤ n
  · by_cases h2 : n ≤ 55
    · go_enter Try.func27, Try.ntmps27
      go_wp2_with fail
      go_ret
      exact ⟨ret_bool (by simp [h1, h2]; omega), rfl⟩
    · have h2' : (55 : Int) < n := by omega
      go_enter Try.func27, Try.ntmps27
      go_wp2_with fail
      go_ret
      exact ⟨ret_bool (by simp [h2]; omega), rfl⟩
  · have h1' : (n : Int) < 48 := by omega
    go_enter Try.func27, Try.ntmps27
    go_wp2_with fail
    go_ret
    exact ⟨ret_bool (by simp), rfl⟩

/-- At most k digits: the number that they and x make, and how many they are. -/
def run8 : Nat → List UInt8 → Nat → Nat × Nat
  | 0, _, x => (x, 0)
  | _ + 1, [], x => (x, 0)
  | k + 1, c :: l, x => if digitB c then ((run8 k l (8 * x + (c.toNat - 48))).1, (run8 k l (8 * x + (c.toNat - 48))).2 + 1) else (x, 0)

/-- What a letter behind a backslash tells. -/
def named (c : UInt8) : UInt8 := if c.toNat = 114 then 13 else if c.toNat = 110 then 10 else if c.toNat = 116 then 9 else c

/-- What a backslash tells, the place behind, the error. -/
def esc (l : List UInt8) (a : Int) : UInt8 × Int × Int :=
  if a < 0 ∨ (l.length : Int) ≤ a then (0, 0, 3) else
  match l.drop a.toNat with
  | [] => (0, 0, 3)
  | [c] => if c.toNat = 92 then (0, 0, 5) else (0, 0, 3)
  | c :: d :: t => if c.toNat = 92 then (if digitB d then (UInt8.ofNat (run8 3 (d :: t) 0).1, a + 1 + ((run8 3 (d :: t) 0).2 : Nat), 0) else (named d, a + 2, 0)) else (0, 0, 3)

/-- The three results as a value. -/
def escV (r : UInt8 × Int × Int) : Value := .tuple #[.int .u8 (r.1.toNat : Int), .int .i64 r.2.1, .int .i64 r.2.2]

theorem ret_esc (x : Nat) (y k : Int) (hy : y = (x : Int) % 256) : Ending.returned (.tuple #[.int .u8 y, .int .i64 k, .int .i64 0]) = .returned (escV (UInt8.ofNat x, k, 0)) := by
  subst hy
  simp [escV]

theorem or8 (x d : Nat) (hx : x < 64) (hd : d < 8) : bits .or .i64 ((x : Int) * 8) (d : Int) = (x : Int) * 8 + d := by
  have h : ((List.range 64).all fun x => (List.range 8).all fun d => bits .or .i64 ((x : Int) * 8) (d : Int) == (x : Int) * 8 + d) = true := by decide +kernel
  have h1 := List.all_eq_true.1 (List.all_eq_true.1 h x (List.mem_range.2 hx)) d (List.mem_range.2 hd)
  simpa using h1

theorem drop_cons {l : List UInt8} {i : Nat} (h : i < l.length) : l.drop i = l[i] :: l.drop (i + 1) := List.drop_eq_getElem_cons h

set_option maxRecDepth 100000 in
set_option maxHeartbeats 1000000 in
theorem escape_run (s : ByteArray) (a : Nat) (hs : s.size ≤ 140737488355328) (w : World) (ha : a + 1 < s.size) (c d : UInt8) (hc : s[a]'(by omega) = c) (h92 : c.toNat = 92) (hd : s[a + 1] = d) (hdd : digitB d = true) :
    Calls Try.prog 18 #[.string s, .int .i64 a] w fun e w' => e = .returned (escV (UInt8.ofNat (run8 3 (s.data.toList.drop (a + 1)) 0).1, (a : Int) + 1 + ((run8 3 (s.data.toList.drop (a + 1)) 0).2 : Nat), 0)) ∧ w = w' := by
  obtain ⟨X, n, hr⟩ : ∃ X n, run8 3 (s.data.toList.drop (a + 1)) 0 = (X, n) := ⟨_, _, rfl⟩
  rw [hr]
  obtain ⟨k, hk⟩ : ∃ k, c.toNat = k := ⟨_, rfl⟩
  rw [hk] at h92
  subst h92
  have HR := Lib.hid hr
  have HD := Lib.hid hdd
  clear hr hdd
  go_enter Try.func18, Try.ntmps18
  go_wp2_with fail
  refine (digit_any d w).mono ?_
  rintro e w' ⟨rfl, rfl⟩
  rw [HD.out]
  go_wp2_with fail
  go_loopg [8, 9] 3 (fun g v8 v9 wr => ∃ (j x : Nat), j + g = 3 ∧ v8 = .int .i64 x ∧ v9 = .int .i64 ((a : Int) + 1 + j) ∧ x < 8 ^ j ∧ a + 1 + j ≤ s.size ∧ wr = w ∧ Hid ((run8 (3 - j) (s.data.toList.drop (a + 1 + j)) x).1 = X ∧ (run8 (3 - j) (s.data.toList.drop (a + 1 + j)) x).2 + j = n))
  case atStart => exact ⟨0, 0, rfl, rfl, by simp, by omega, by omega, rfl, by show _ ∧ _; rw [Nat.add_zero, HR.out]; exact ⟨rfl, rfl⟩⟩
  case round =>
    obtain ⟨j, x, hj, rfl, rfl, hx, hjs, rfl, HRR⟩ := hrel
    clear HR
    by_cases hj3 : j < 3
    · by_cases hlt : a + 1 + j < s.size
      · obtain ⟨f, hf⟩ : ∃ f, s[a + 1 + j] = f := ⟨_, rfl⟩
        have hdc : s.data.toList.drop (a + 1 + j) = f :: s.data.toList.drop (a + 1 + j + 1) := by
          rw [drop_cons (by simpa using hlt)]
          simp [← hf]
          rfl
        have HDC := Lib.hid hdc
        clear hdc
        have hx64 : x < 64 := by
          have : 8 ^ j ≤ 8 ^ 2 := Nat.pow_le_pow_right (by omega) (by omega)
          omega
        obtain ⟨q, hq⟩ : ∃ q, f.toNat = q := ⟨_, rfl⟩
        have hq8 := f.toNat_lt
        rw [hq] at hq8
        have HDG := Lib.hid (digit_any f wr)
        rw [hq] at HDG
        by_cases hdf : digitB f = true
        · have hqd : 48 ≤ q ∧ q ≤ 55 := by unfold digitB at hdf; rw [hq] at hdf; simpa using hdf
          have ho := or8 x (q - 48) hx64 (by omega)
          have hcast : ((q - 48 : Nat) : Int) = (q : Int) - 48 := by omega
          rw [hcast] at ho
          have hmod : ((q : Int) - 48) % 256 = (q : Int) - 48 := by omega
          have HDF := Lib.hid hdf
          clear hdf hcast
          go_wp2_with fail
          refine Calls.mono HDG.out ?_
          rintro e w' ⟨rfl, rfl⟩
          rw [HDF.out]
          clear HDG
          go_wp2_with fail
          go_roundg (3 - (j + 1))
          case measure => omega
          case rel =>
            refine ⟨j + 1, 8 * x + (q - 48), by omega, ?_, by go_num, by rw [Nat.pow_succ]; omega, by omega, rfl, ?_⟩
            · first | rfl | (congr 1; omega)
            · show _ ∧ _
              have h := HRR.out
              rw [HDC.out, show 3 - j = (3 - (j + 1)) + 1 by omega] at h
              simp only [run8, HDF.out, if_true, hq] at h
              rw [show a + 1 + (j + 1) = a + 1 + j + 1 by omega]
              refine ⟨h.1, ?_⟩
              have := h.2
              omega
        · have hdf' : digitB f = false := by simpa using hdf
          have HDF := Lib.hid hdf'
          clear hdf hdf'
          go_wp2_with fail
          refine Calls.mono HDG.out ?_
          rintro e w' ⟨rfl, rfl⟩
          rw [HDF.out]
          clear HDG
          have hfin : x = X ∧ j = n := by
            have h := HRR.out
            rw [HDC.out, show 3 - j = (3 - (j + 1)) + 1 by omega] at h
            simp only [run8, HDF.out] at h
            simpa using h
          obtain ⟨rfl, rfl⟩ := hfin
          go_wp2_with fail
          all_goals (go_ret3; exact ⟨ret_esc x _ _ (by first | rfl | omega), rfl⟩)
      · have hfin : x = X ∧ j = n := by
          have h := HRR.out
          rw [List.drop_eq_nil_of_le (by simp; omega), show 3 - j = (3 - (j + 1)) + 1 by omega] at h
          simpa [run8] using h
        obtain ⟨rfl, rfl⟩ := hfin
        go_wp2_with fail
        all_goals (go_ret3; exact ⟨ret_esc x _ _ (by first | rfl | omega), rfl⟩)
    · have hfin : x = X ∧ j = n := by
        have h := HRR.out
        rw [show 3 - j = 0 by omega] at h
        simpa [run8] using h
      obtain ⟨rfl, rfl⟩ := hfin
      go_wp2_with fail
      all_goals (go_ret3; exact ⟨ret_esc x _ _ (by first | rfl | omega), rfl⟩)
/-- Behind a backslash stands no digit. -/
theorem escape_letter (s : ByteArray) (a : Nat) (hs : s.size ≤ 140737488355328) (w : World) (ha : a + 1 < s.size) (c d : UInt8) (hc : s[a]'(by omega) = c) (h92 : c.toNat = 92) (hd : s[a + 1] = d) (hdd : digitB d = false) :
    Calls Try.prog 18 #[.string s, .int .i64 a] w fun e w' => e = .returned (escV (named d, (a : Int) + 2, 0)) ∧ w = w' := by
  obtain ⟨k, hk⟩ : ∃ k, c.toNat = k := ⟨_, rfl⟩
  rw [hk] at h92
  subst h92
  obtain ⟨q, hq⟩ : ∃ q, d.toNat = q := ⟨_, rfl⟩
  have HDG := Lib.hid (digit_any d w)
  rw [hq, hdd] at HDG
  have HV : Hid (∀ r : UInt8, named d = r → escV (named d, (a : Int) + 2, 0) = .tuple #[.int .u8 (r.toNat : Int), .int .i64 ((a : Int) + 2), .int .i64 0]) := fun r hr => by rw [hr]; rfl
  have hn : named d = if q = 114 then 13 else if q = 110 then 10 else if q = 116 then 9 else d := by rw [← hq]; rfl
  clear hdd
  by_cases h1 : q = 114
  · subst h1
    rw [HV.out 13 (by rw [hn]; rfl)]
    clear HV hn
    go_enter Try.func18, Try.ntmps18
    go_wp2_with fail
    refine Calls.mono HDG.out ?_
    rintro e w' ⟨rfl, rfl⟩
    go_wp2_with fail
    go_ret3
    exact ⟨rfl, rfl⟩
  · have z1 : ((q : Int) == 114) = false := by simp; omega
    by_cases h2 : q = 110
    · subst h2
      rw [HV.out 10 (by rw [hn]; rfl)]
      clear HV hn
      go_enter Try.func18, Try.ntmps18
      go_wp2_with fail
      refine Calls.mono HDG.out ?_
      rintro e w' ⟨rfl, rfl⟩
      go_wp2_with fail
      go_ret3
      exact ⟨rfl, rfl⟩
    · have z2 : ((q : Int) == 110) = false := by simp; omega
      by_cases h3 : q = 116
      · subst h3
        rw [HV.out 9 (by rw [hn]; rfl)]
        clear HV hn
        go_enter Try.func18, Try.ntmps18
        go_wp2_with fail
        refine Calls.mono HDG.out ?_
        rintro e w' ⟨rfl, rfl⟩
        go_wp2_with fail
        go_ret3
        exact ⟨rfl, rfl⟩
      · have z3 : ((q : Int) == 116) = false := by simp; omega
        rw [HV.out d (by rw [hn, if_neg h1, if_neg h2, if_neg h3]), hq]
        clear HV hn
        go_enter Try.func18, Try.ntmps18
        go_wp2_with fail
        refine Calls.mono HDG.out ?_
        rintro e w' ⟨rfl, rfl⟩
        go_wp2_with fail
        go_ret3
        exact ⟨rfl, rfl⟩

theorem escape_out (s : ByteArray) (a : Int) (w : World) (h : a < 0 ∨ (s.size : Int) ≤ a) :
    Calls Try.prog 18 #[.string s, .int .i64 a] w fun e w' => e = .returned (escV (0, 0, 3)) ∧ w = w' := by
  rcases h with h | h
  · go_enter Try.func18, Try.ntmps18
    go_wp2_with fail
    go_ret3
    exact ⟨rfl, rfl⟩
  · have h0 : ¬ a < 0 := by omega
    go_enter Try.func18, Try.ntmps18
    go_wp2_with fail
    go_ret3
    exact ⟨rfl, rfl⟩

theorem escape_no (s : ByteArray) (a : Nat) (w : World) (ha : a < s.size) (c : UInt8) (hc : s[a] = c) (h92 : c.toNat ≠ 92) :
    Calls Try.prog 18 #[.string s, .int .i64 a] w fun e w' => e = .returned (escV (0, 0, 3)) ∧ w = w' := by
  obtain ⟨k, hk⟩ : ∃ k, c.toNat = k := ⟨_, rfl⟩
  rw [hk] at h92
  have z : ((k : Int) != 92) = true := by simp; omega
  go_enter Try.func18, Try.ntmps18
  go_wp2_with fail
  go_ret3
  exact ⟨rfl, rfl⟩

theorem escape_short (s : ByteArray) (a : Nat) (hs : s.size ≤ 140737488355328) (w : World) (ha : a < s.size) (h1 : a + 1 = s.size) (c : UInt8) (hc : s[a] = c) (h92 : c.toNat = 92) :
    Calls Try.prog 18 #[.string s, .int .i64 a] w fun e w' => e = .returned (escV (0, 0, 5)) ∧ w = w' := by
  obtain ⟨k, hk⟩ : ∃ k, c.toNat = k := ⟨_, rfl⟩
  rw [hk] at h92
  subst h92
  have z : ((a : Int) + 1 == (s.size : Int)) = true := by simp; omega
  go_enter Try.func18, Try.ntmps18
  go_wp2_with fail
  go_ret3
  exact ⟨rfl, rfl⟩

theorem drop_get {s : ByteArray} {i : Nat} (h : i < s.size) : s.data.toList.drop i = s[i] :: s.data.toList.drop (i + 1) := by
  rw [drop_cons (by simpa using h)]
  simp
  rfl

/-- Escape, whatever the text and the place. -/
theorem escape_any (s : ByteArray) (a : Int) (hs : s.size ≤ 140737488355328) (w : World) : Calls Try.prog 18 #[.string s, .int .i64 a] w fun e w' => e = .returned (escV (esc s.data.toList a)) ∧ w = w' := by
  by_cases h : a < 0 ∨ (s.size : Int) ≤ a
  · have : esc s.data.toList a = (0, 0, 3) := by
      unfold esc
      rw [if_pos (by simpa using h)]
    rw [this]
    exact escape_out s a w h
  · obtain ⟨n, rfl⟩ : ∃ n : Nat, a = n := ⟨a.toNat, by omega⟩
    have hn : n < s.size := by omega
    have he : esc s.data.toList n = match s.data.toList.drop n with
      | [] => (0, 0, 3)
      | [c] => if c.toNat = 92 then (0, 0, 5) else (0, 0, 3)
      | c :: d :: t => if c.toNat = 92 then (if digitB d then (UInt8.ofNat (run8 3 (d :: t) 0).1, (n : Int) + 1 + ((run8 3 (d :: t) 0).2 : Nat), 0) else (named d, (n : Int) + 2, 0)) else (0, 0, 3) := by
      unfold esc
      rw [if_neg (by simpa using h)]
      rfl
    by_cases h92 : (s[n]).toNat = 92
    · by_cases h1 : n + 1 < s.size
      · have hd2 := drop_get h1
        rw [drop_get hn, hd2] at he
        simp only [h92, if_true] at he
        by_cases hdd : digitB (s[n + 1]) = true
        · rw [hdd] at he
          simp only [if_true] at he
          rw [he, ← hd2]
          exact escape_run s n hs w h1 _ _ rfl h92 rfl hdd
        · rw [Bool.not_eq_true] at hdd
          rw [hdd] at he
          simp only [Bool.false_eq_true, if_false] at he
          rw [he]
          exact escape_letter s n hs w h1 _ _ rfl h92 rfl hdd
      · rw [drop_get hn, List.drop_eq_nil_of_le (by simp; omega)] at he
        simp only [h92, if_true] at he
        rw [he]
        exact escape_short s n hs w hn (by omega) _ rfl h92
    · have : esc s.data.toList n = (0, 0, 3) := by
        rw [he, drop_get hn]
        split
        · rfl
        · rename_i heq; simp at heq; rw [← heq.1, if_neg h92]
        · rename_i heq; simp at heq; rw [← heq.1, if_neg h92]
      rw [this]
      exact escape_no s n w hn _ rfl h92

end Go.Proofs.Ythjaemocnlhkdaa
