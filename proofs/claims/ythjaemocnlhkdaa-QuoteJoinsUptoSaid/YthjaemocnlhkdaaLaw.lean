/-
  Plain laws of what is quoted and unquoted. No condition, no program in sight.
-/
import Derived.Test.YthjaemocnlhkdaaUnq
namespace Go.Proofs.Ythjaemocnlhkdaa

/-- A byte that Unquote takes as it is. -/
def inner (c : UInt8) : Bool := !(c.toNat == 34) && (!(c.toNat == 92) && (!(c.toNat == 91) && !(c.toNat == 36)))

theorem inner_iff (c : UInt8) : inner c = true ↔ c.toNat ≠ 34 ∧ c.toNat ≠ 92 ∧ c.toNat ≠ 91 ∧ c.toNat ≠ 36 := by
  unfold inner
  simp

/-- One round at a byte that is taken as it is. -/
theorem loop_inner {l : List UInt8} {i : Nat} {c : UInt8} {acc : List UInt8} (h : l[i]? = some c) (hc : inner c = true) : unqLoop l i acc = unqLoop l (i + 1) (acc ++ [c]) := by
  obtain ⟨hlt, hg⟩ := List.getElem?_eq_some_iff.1 h
  obtain ⟨h1, h2, h3, h4⟩ := (inner_iff c).1 hc
  rw [unqLoop, dif_pos hlt, hg, if_neg h1, if_neg h3, if_neg (fun h => h4 h.1), if_neg h2]

theorem loop_end {l : List UInt8} {i : Nat} {acc : List UInt8} (h : l.length ≤ i) : unqLoop l i acc = ([], 0, 5) := by
  rw [unqLoop, dif_neg (by omega)]

theorem loop_quote {l : List UInt8} {i : Nat} {acc : List UInt8} (h : l[i]? = some 34) (he : i + 1 = l.length) : unqLoop l i acc = (acc, 0, 0) := by
  obtain ⟨hlt, hg⟩ := List.getElem?_eq_some_iff.1 h
  rw [unqLoop, dif_pos hlt, hg, if_pos (by decide), if_neg (by omega)]

theorem loop_bracket {l : List UInt8} {i : Nat} {acc : List UInt8} (h : l[i]? = some 91) : unqLoop l i acc = ([], (i : Int), 4) := by
  obtain ⟨hlt, hg⟩ := List.getElem?_eq_some_iff.1 h
  rw [unqLoop, dif_pos hlt, hg, if_neg (by decide), if_pos (by decide)]

/-- Bytes that are taken as they are, one behind the other. -/
theorem loop_inners (t : List UInt8) : ∀ (S pre acc : List UInt8), S.all inner = true → unqLoop (pre ++ S ++ t) pre.length acc = unqLoop (pre ++ S ++ t) (pre.length + S.length) (acc ++ S)
  | [], pre, acc, _ => by simp
  | c :: S, pre, acc, h => by
    simp only [List.all_cons, Bool.and_eq_true] at h
    have h1 : (pre ++ (c :: S) ++ t)[pre.length]? = some c := by simp
    rw [loop_inner h1 h.1]
    have ih := loop_inners t S (pre ++ [c]) (acc ++ [c]) h.2
    simp only [List.append_assoc, List.singleton_append, List.length_append, List.length_cons, List.length_nil] at ih ⊢
    rw [show pre.length + 1 = pre.length + (0 + 1) from by omega, ih]
    congr 1
    omega

theorem unq_inner (S : List UInt8) (h : S.all inner = true) : unq (34 :: S ++ [34]) = (S, 0, 0) := by
  have hl := loop_inners [34] S [34] [] h
  unfold unq
  rw [if_pos (by rfl)]
  simp only [List.length_cons, List.length_nil, Nat.zero_add, List.nil_append, List.cons_append] at hl ⊢
  rw [hl]
  exact loop_quote (by rw [show (34 :: (S ++ [34]))[1 + S.length]? = (S ++ [34])[S.length]? from by rw [Nat.add_comm]; rfl]; simp) (by simp; omega)

theorem unq_inner_bracket (S : List UInt8) (h : S.all inner = true) : unq (34 :: S ++ [91]) = ([], 1 + (S.length : Int), 4) := by
  have hl := loop_inners [91] S [34] [] h
  unfold unq
  rw [if_pos (by rfl)]
  simp only [List.length_cons, List.length_nil, Nat.zero_add, List.nil_append, List.cons_append] at hl ⊢
  rw [hl, loop_bracket (by rw [show (34 :: (S ++ [91]))[1 + S.length]? = (S ++ [91])[S.length]? from by rw [Nat.add_comm]; rfl]; simp)]
  rfl

theorem unq_inner_none (S : List UInt8) (h : S.all inner = true) : unq (34 :: S) = ([], 0, 5) := by
  have hl := loop_inners [] S [34] [] h
  unfold unq
  rw [if_pos (by rfl)]
  simp only [List.append_nil, List.length_cons, List.length_nil, Nat.zero_add, List.nil_append, List.singleton_append] at hl ⊢
  rw [hl]
  exact loop_end (by simp; omega)

theorem plain_inner (c : UInt8) (h : plain c = true) : inner c = true := by
  have := each_byte (p := fun c => !plain c || inner c) (by decide +kernel) c
  rw [h] at this
  simpa using this

/-- esc at a byte's octal digits. -/
theorem esc_octal_at {l t : List UInt8} {a : Nat} {c : UInt8} (h : l.drop a = octal c ++ t) (ha : a < l.length) : esc l a = (c, (a : Int) + 4, 0) := by
  have hd := each_byte (p := fun c => digitB (48 + c / 64) && digitB (48 + c / 8 % 8) && digitB (48 + c % 8) &&
    (UInt8.ofNat (8 * (8 * (8 * 0 + ((48 + c / 64).toNat - 48)) + ((48 + c / 8 % 8).toNat - 48)) + ((48 + c % 8).toNat - 48)) == c)) (by decide +kernel) c
  simp only [Bool.and_eq_true, beq_iff_eq] at hd
  obtain ⟨⟨⟨h1, h2⟩, h3⟩, h4⟩ := hd
  have e : octal c ++ t = 92 :: (48 + c / 64) :: (48 + c / 8 % 8) :: (48 + c % 8) :: t := rfl
  have hr : run8 3 ((48 + c / 64) :: (48 + c / 8 % 8) :: (48 + c % 8) :: t) 0 = (8 * (8 * (8 * 0 + ((48 + c / 64).toNat - 48)) + ((48 + c / 8 % 8).toNat - 48)) + ((48 + c % 8).toNat - 48), 3) := by
    simp only [run8, h1, h2, h3, if_true]
  unfold esc
  rw [if_neg (by omega), Int.toNat_natCast, h, e]
  simp only [h1, if_true, hr, h4]
  rw [if_pos (by decide)]
  congr 2

theorem loop_octal {l t : List UInt8} {i : Nat} {c : UInt8} {acc : List UInt8} (h : l.drop i = octal c ++ t) : unqLoop l i acc = unqLoop l (i + 4) (acc ++ [c]) := by
  have hlt : i < l.length := by
    rcases Nat.lt_or_ge i l.length with h' | h'
    · exact h'
    · rw [List.drop_eq_nil_of_le h'] at h
      simp [octal] at h
  have hg : l[i] = 92 := by
    have := drop_cons hlt
    rw [h] at this
    have h2 : octal c ++ t = 92 :: ([48 + c / 64, 48 + c / 8 % 8, 48 + c % 8] ++ t) := rfl
    rw [h2] at this
    exact ((List.cons.injEq _ _ _ _).mp this).1.symm
  rw [unqLoop, dif_pos hlt, hg, if_neg (by decide), if_neg (by decide), if_neg (fun h => by exact absurd h.1 (by decide)), if_pos (by decide), esc_octal_at h hlt]
  have h4 : i < ((i : Int) + 4).toNat := by omega
  simp only [if_true, h4, dif_pos]
  congr 1

/-- What is quoted is unquoted. -/
theorem loop_quoted : ∀ (l pre done : List UInt8), unqLoop (pre ++ (l.flatMap q1 ++ [34])) pre.length done = (done ++ l, 0, 0)
  | [], pre, done => by
    rw [loop_quote (by simp) (by simp)]
    simp
  | c :: l, pre, done => by
    have ih := loop_quoted l (pre ++ q1 c) (done ++ [c])
    simp only [List.flatMap_cons, List.append_assoc] at ih ⊢
    by_cases hp : plain c = true
    · have hq : q1 c = [c] := by unfold q1; rw [if_pos hp]
      rw [hq] at ih ⊢
      rw [loop_inner (c := c) (by simp) (plain_inner c hp)]
      simpa using ih
    · have hq : q1 c = octal c := by unfold q1; rw [if_neg hp]
      rw [hq] at ih ⊢
      rw [loop_octal (t := l.flatMap q1 ++ [34]) (c := c) (by simp)]
      have h4 : (pre ++ octal c).length = pre.length + 4 := by simp [octal]
      rw [h4] at ih
      simpa using ih

theorem unq_quote (l : List UInt8) : unq (quoteL l) = (l, 0, 0) := by
  have h := loop_quoted l [34] []
  unfold unq quoteL
  rw [if_pos (by rfl)]
  simpa using h

theorem quote_joins (a b : List UInt8) : quoteL (a ++ b) = (quoteL a).dropLast ++ (quoteL b).tail := by
  have h1 : (quoteL a).dropLast = 34 :: a.flatMap q1 := by unfold quoteL; exact List.dropLast_concat
  have h2 : (quoteL b).tail = b.flatMap q1 ++ [34] := rfl
  rw [h1, h2]
  simp [quoteL]

/-- Between the quotes stand plain bytes and backslashes. -/
theorem quoted_byte (l : List UInt8) {x : UInt8} (h : x ∈ l.flatMap q1) : x.toNat = 92 ∨ plain x = true := by
  obtain ⟨c, _, hx⟩ := List.mem_flatMap.1 h
  unfold q1 at hx
  split at hx
  · rename_i hp
    have : x = c := by simpa using hx
    subst this
    exact .inr hp
  · have := each_byte (p := fun c => (octal c).all fun x => (x.toNat == 92) || plain x) (by decide +kernel) c
    have := List.all_eq_true.1 this x hx
    simpa using this

end Go.Proofs.Ythjaemocnlhkdaa
