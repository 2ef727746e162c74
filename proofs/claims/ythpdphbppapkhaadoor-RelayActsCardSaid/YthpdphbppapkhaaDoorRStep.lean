/-
  The walk of the reference relay's step. Condition: the notes are as Notes says; what waits are at most 100 bytes a way.
-/
import Derived.Test.YthpdphbppapkhaaDoorRRead
namespace Go.Proofs.YthpdphbppapkhaaDoor
open Go.RowKit qb

/-- Whatever lies in it are bytes, and not many. -/
def Small (s : RS) : Prop := (∀ d j z, z ∈ (s.l d).x j → U8 z) ∧ (∀ d z, z ∈ s.w d → U8 z) ∧ (∀ d j, ((s.l d).x j).length ≤ 100) ∧ ∀ d, (s.w d).length ≤ 100

set_option maxRecDepth 100000 in
set_option maxHeartbeats 2000000 in
theorem rr_step {w : World} {r : Nat} {m : Bool → Nat} {N : Nat} {s : RS} {H : List Nat} (h : RRel w r m N s H) (hn : Notes s) (hs : Small s) (kind n t : Int) :
    Calls Tryd.prog 41 #[.pointer (some ⟨r, 0, none⟩), .int .i64 kind, .int .i64 n, .int .i64 t] w fun e w' => e = .returned (.bool (stepS N s kind n t).2) ∧ RGo w w' r m N H (stepS N s kind n t).1 := by
  have H0 := Lib.hid h
  have H1 := Lib.hid (rr_read h hn true 1 rfl n t (hs.1 true true) (hs.2.2.1 true true) (hs.2.2.2 true))
  have H2 := Lib.hid (rr_read h hn false 0 rfl n t (hs.1 false false) (hs.2.2.1 false false) (hs.2.2.2 false))
  have H3 := Lib.hid (rr_write h true 1 rfl n (hs.2.2.2 true) (hs.2.1 true))
  have H4 := Lib.hid (rr_write h false 0 rfl n (hs.2.2.2 false) (hs.2.1 false))
  unfold stepS
  clear h hn hs
  by_cases k0 : kind = 0
  · subst k0
    rw [if_pos rfl]
    obtain ⟨T, hT⟩ : ∃ T, readS s true n t = T := ⟨_, rfl⟩
    rw [hT] at H1 ⊢
    go_enter Tryd.func41, Tryd.ntmps41
    go_wp2_with fail
    refine Calls.mono H1.out ?_
    rintro e w' ⟨rfl, hg⟩
    have HG : Hid _ := hg
    clear hg
    go_wp2_with fail
    go_ret
    exact ⟨rfl, HG.out⟩
  rw [if_neg k0]
  by_cases k1 : kind = 1
  · subst k1
    rw [if_pos rfl]
    obtain ⟨T, hT⟩ : ∃ T, readS s false n t = T := ⟨_, rfl⟩
    rw [hT] at H2 ⊢
    go_enter Tryd.func41, Tryd.ntmps41
    go_wp2_with fail
    refine Calls.mono H2.out ?_
    rintro e w' ⟨rfl, hg⟩
    have HG : Hid _ := hg
    clear hg
    go_wp2_with fail
    go_ret
    exact ⟨rfl, HG.out⟩
  rw [if_neg k1]
  by_cases k2 : kind = 2
  · subst k2
    rw [if_pos rfl]
    obtain ⟨b, hb⟩ : ∃ b, decide (0 < sentN s true n N) = b := ⟨_, rfl⟩
    rw [hb] at H3 ⊢
    go_enter Tryd.func41, Tryd.ntmps41
    go_wp2_with fail
    refine Calls.mono H3.out ?_
    rintro e w' ⟨rfl, hg⟩
    have HG : Hid _ := hg
    clear hg
    go_wp2_with fail
    go_ret
    exact ⟨rfl, HG.out⟩
  rw [if_neg k2]
  by_cases k3 : kind = 3
  · subst k3
    rw [if_pos rfl]
    obtain ⟨b, hb⟩ : ∃ b, decide (0 < sentN s false n N) = b := ⟨_, rfl⟩
    rw [hb] at H4 ⊢
    go_enter Tryd.func41, Tryd.ntmps41
    go_wp2_with fail
    refine Calls.mono H4.out ?_
    rintro e w' ⟨rfl, hg⟩
    have HG : Hid _ := hg
    clear hg
    go_wp2_with fail
    go_ret
    exact ⟨rfl, HG.out⟩
  · rw [if_neg k3]
    go_enter Tryd.func41, Tryd.ntmps41
    go_wp2_with fail
    go_ret
    exact ⟨rfl, H, H0.out, Gr.refl _ _⟩

end Go.Proofs.YthpdphbppapkhaaDoor
