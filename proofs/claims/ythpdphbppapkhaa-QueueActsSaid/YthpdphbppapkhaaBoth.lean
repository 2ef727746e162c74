/-
  The queue and the reference queue side by side, each in memory of its own. No condition.
-/
import Derived.Test.YthpdphbppapkhaaRefPut
namespace Go.Proofs.Ythpdphbppapkhaa
open Go.RowKit qi

/-- Both hold xs, in blocks of their own, none of the other's. -/
structure Both (w0 w : World) (b n : Nat) (F : List Nat) (m : Nat) (G : List Nat) (xs : List Int) (e : Bool) : Prop where
  q : IsQ w b F xs n e
  r : RefQ w m G xs n e
  hF : ∀ x, x ∈ F → w0.heap.size ≤ x
  hG : ∀ x, x ∈ G → w0.heap.size ≤ x
  apart : ∀ x, x ∈ F → x ∉ G
  bel : Below w0.heap.size w0 w

theorem Both.alloc {w0 w : World} {b n m : Nat} {F G : List Nat} {xs : List Int} {e : Bool} (h : Both w0 w b n F m G xs e) (o : Obj) : Both w0 (w.alloc o) b n F m G xs e :=
  ⟨h.q.below ((Below.refl _ _).alloc (Nat.le_refl _) _) (Nat.le_refl _), h.r.below ((Below.refl _ _).alloc (Nat.le_refl _) _) (Nat.le_refl _), h.hF, h.hG, h.apart, h.bel.alloc h.bel.size _⟩

theorem Both.drewN {w0 w : World} {b n m : Nat} {F G : List Nat} {xs : List Int} {e : Bool} (h : Both w0 w b n F m G xs e) (k : Nat) : Both w0 (w.drewN k) b n F m G xs e :=
  ⟨h.q.same (fun _ _ => rfl), h.r, h.hF, h.hG, h.apart, below_drewN h.bel k⟩

theorem Both.below {w0 w w' : World} {b n m : Nat} {F G : List Nat} {xs : List Int} {e : Bool} (h : Both w0 w b n F m G xs e) (hb : Below w.heap.size w w') : Both w0 w' b n F m G xs e :=
  ⟨h.q.below hb (Nat.le_refl _), h.r.below hb (Nat.le_refl _), h.hF, h.hG, h.apart, h.bel.trans (hb.mono h.bel.size)⟩

theorem Both.two {w0 w w1 w2 : World} {b n m : Nat} {F F1 G G2 : List Nat} {xs xs1 : List Int} {e e1 : Bool} (h : Both w0 w b n F m G xs e) (hq : IsQ w1 b F1 xs1 n e1) (hk1 : Keeps F w w1) (hs1 : ∀ x, x ∈ F1 → x ∈ F ∨ w.heap.size ≤ x)
    (hr : RefQ w2 m G2 xs1 n e1) (hk2 : Keeps G w1 w2) (hs2 : ∀ x, x ∈ G2 → x ∈ G ∨ w1.heap.size ≤ x) : Both w0 w2 b n F1 m G2 xs1 e1 := by
  have hGl := h.r.lt
  have hFl := hq.lt
  have hsz := h.bel.size
  have hs := hk1.size
  have hap : ∀ x, x ∈ F1 → x ∉ G := fun x hx hg => by
    rcases hs1 x hx with hm | hm
    · exact h.apart x hm hg
    · have := hGl x hg
      omega
  have hb1 := hk1.below h.bel h.hF hsz
  refine ⟨hq.keeps hk2 hap, hr, fun x hx => ?_, fun x hx => ?_, fun x hx hg => ?_, hk2.below hb1 h.hG (Nat.le_trans hsz hs)⟩
  · rcases hs1 x hx with hm | hm
    · exact h.hF x hm
    · omega
  · rcases hs2 x hx with hm | hm
    · exact h.hG x hm
    · omega
  · rcases hs2 x hg with hm | hm
    · exact hap x hx hm
    · have := hFl x hx
      omega

theorem Both.ref1 {w0 w w1 : World} {b n m : Nat} {F G : List Nat} {xs : List Int} {e : Bool} (h : Both w0 w b n F m G xs e) (hk : Keeps F w w1) : RefQ w1 m G xs n e :=
  h.r.keeps hk (fun k hk hf => h.apart k hf hk)

end Go.Proofs.Ythpdphbppapkhaa
