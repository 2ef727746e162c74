/-
  The walk of a relay's reading. No condition.
-/
import Derived.Test.YthpdphbppapkhaaDoorRelWrite
import Derived.BigQuiet
namespace Go.Proofs.YthpdphbppapkhaaDoor
open Go.RowKit qb

attribute [local go_sem] Oper.semAt_some

/-- Is there nothing to be read now? -/
def cannot (s : RS) (d : Bool) (n : Int) : Prop := 0 < (s.w d).length ∨ s.o d = true ∨ s.o false = true ∨ n < 1 ∨ s.evs.length = 4096

instance (s : RS) (d : Bool) (n : Int) : Decidable (cannot s d n) := by unfold cannot; infer_instance

def readN (s : RS) (d : Bool) (n : Int) : Nat := count (min (min n 65536) s.left) ((s.l d).x d).length

/-- Behind the reading of k bytes. -/
def got (s : RS) (d : Bool) (k : Nat) (t : Int) : RS :=
  { l := upd s.l d ((s.l d).set d (((s.l d).x d).drop k) ((s.l d).e d)), w := upd s.w d (((s.l d).x d).take k), o := s.o, t := seeT s.t s.ok t, ok := true,
    evs := s.evs ++ [⟨sd d, seeT s.t s.ok t, ((s.l d).x d).take k⟩], left := s.left - k }

/-- Behind an end that was seen. -/
def hung (s : RS) (d : Bool) : RS := { s with l := upd s.l (!d) ((s.l (!d)).set d ((s.l (!d)).x d) true), o := upd s.o d true }

def isOver (s : RS) (d : Bool) : Bool := (s.l d).e d && decide (((s.l d).x d).length = 0)

/-- What a reading does. -/
def readS (s : RS) (d : Bool) (n t : Int) : RS × Bool :=
  if cannot s d n then (s, false) else if 0 < readN s d n then (got s d (readN s d n) t, true) else if isOver s d = true then (hung s d, true) else (s, false)

theorem set_self (l : Line) (d : Bool) : l.set d (l.x d) (l.e d) = l := by cases d <;> rfl

theorem stepped_refl {w : World} {R : Nat} {ln : Bool → Nat} {N : Nat} {s : RS} {H : List Nat} (h : Rel w R ln N s H) (r : Bool) : Stepped w R ln N H s r (.returned (.bool r)) w := ⟨rfl, H, h, Keeps.refl _ _, fun _ h => .inl h⟩

set_option maxRecDepth 100000 in
set_option maxHeartbeats 4000000 in
theorem read_no {w : World} {R : Nat} {ln : Bool → Nat} {N : Nat} {s : RS} {H : List Nat} (h : Rel w R ln N s H) (d : Bool) (side : Int) (hside : sd d = side) (n t : Int) (hc : cannot s d n) :
    Calls Tryd.prog 54 #[.pointer (some ⟨R, 0, none⟩), .int .i64 side, .int .i64 n, .int .i64 t] w fun e w' => e = .returned (.bool false) ∧ w = w' := by
  obtain ⟨K, Fs, v, vE, evl, Q, col, rfl, h⟩ := h
  obtain ⟨a, c, hv, _, _⟩ := (h.hw d).form
  obtain ⟨sp, sc, hE⟩ : ∃ sp sc, vE = .slice sp s.evs.length sc := by
    rcases h.row.2 with ⟨rfl, e⟩ | ⟨g, cap, cur, rfl, _⟩
    · exact ⟨none, 0, by rw [e]⟩
    · exact ⟨_, _, rfl⟩
  have cj := fun j => h.cells j
  obtain ⟨k, hk⟩ : ∃ k, (s.w d).length = k := ⟨_, rfl⟩
  obtain ⟨m, hm⟩ : ∃ m, s.evs.length = m := ⟨_, rfl⟩
  obtain ⟨o0, ho0⟩ : ∃ o0, s.o false = o0 := ⟨_, rfl⟩
  obtain ⟨o1, ho1⟩ : ∃ o1, s.o d = o1 := ⟨_, rfl⟩
  unfold cannot at hc
  rw [hk, hm, ho0, ho1] at hc
  rw [hk] at hv
  rw [hm] at hE
  have c5 : w.cell? ⟨R, 5, none⟩ = some (.bool o0) := by rw [← ho0]; exact cj 5
  have c13 : w.cell? ⟨R, 13, none⟩ = some (.slice sp m sc) := by rw [← hE]; exact cj 13
  have HE : Hid (¬ m = 4096 → ((m : Int) == 4096) = false) := fun h => by simp; omega
  cases d
  · have c4 : w.cell? ⟨R, 4, none⟩ = some (.slice a k c) := by rw [← hv]; exact cj 4
    have ho : o0 = o1 := by rw [← ho0, ← ho1]
    subst ho
    simp only [sd, Bool.false_eq_true, if_false] at hside
    subst hside
    clear h hv hE cj hk hm ho0 ho1
    by_cases h1 : 0 < k
    · clear hc
      go_enter Tryd.func54, Tryd.ntmps54
      go_wp2_with fail
      go_ret
      exact ⟨rfl, rfl⟩
    cases o0
    · by_cases h3 : n < 1
      · clear hc
        go_enter Tryd.func54, Tryd.ntmps54
        go_wp2_with fail
        go_ret
        exact ⟨rfl, rfl⟩
      · have h4 : m = 4096 := by simpa [h1, h3] using hc
        subst h4
        clear hc
        go_enter Tryd.func54, Tryd.ntmps54
        go_wp2_with fail
        go_ret
        exact ⟨rfl, rfl⟩
    · clear hc
      go_enter Tryd.func54, Tryd.ntmps54
      go_wp2_with fail
      go_ret
      exact ⟨rfl, rfl⟩
  · have c10 : w.cell? ⟨R, 10, none⟩ = some (.slice a k c) := by rw [← hv]; exact cj 10
    have c11 : w.cell? ⟨R, 11, none⟩ = some (.bool o1) := by rw [← ho1]; exact cj 11
    simp only [sd, if_true] at hside
    subst hside
    clear h hv hE cj hk hm ho0 ho1
    by_cases h1 : 0 < k
    · clear hc
      go_enter Tryd.func54, Tryd.ntmps54
      go_wp2_with fail
      go_ret
      exact ⟨rfl, rfl⟩
    cases o1
    · cases o0
      · by_cases h3 : n < 1
        · clear hc
          go_enter Tryd.func54, Tryd.ntmps54
          go_wp2_with fail
          go_ret
          exact ⟨rfl, rfl⟩
        · have h4 : m = 4096 := by simpa [h1, h3] using hc
          subst h4
          clear hc
          go_enter Tryd.func54, Tryd.ntmps54
          go_wp2_with fail
          go_ret
          exact ⟨rfl, rfl⟩
      · clear hc
        go_enter Tryd.func54, Tryd.ntmps54
        go_wp2_with fail
        go_ret
        exact ⟨rfl, rfl⟩
    · clear hc
      go_enter Tryd.func54, Tryd.ntmps54
      go_wp2_with fail
      go_ret
      exact ⟨rfl, rfl⟩

end Go.Proofs.YthpdphbppapkhaaDoor
