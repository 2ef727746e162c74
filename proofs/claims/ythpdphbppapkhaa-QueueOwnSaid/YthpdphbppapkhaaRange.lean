/-
  A range over a function at a frame that need not be written out: 'wpIn_rangeFunc_ownG' with the frame behind the assignment told from the frame ahead of it: slots p and q hold the value. No condition.
-/
import Derived.Test.YthpdphbppapkhaaAll
namespace Go.Proofs.Ythpdphbppapkhaa
open Go.RowKit Go.Shelf

/-- The frame in a round: slots p (the loop's own) and q (the variable) hold x. -/
def inRoundAct (T : Array Value) (p q : Nat) (x : Int) : Go.Act := { tmps := (T.setIfInBounds p (.int .i64 x)).setIfInBounds q (.int .i64 x), defers := [] }

theorem range_ownG {F : Fence} {n : Nat} {P : Program} {g : Operand} {p q : Nat} {assign body : Code} {Q : Exit → Go.Act → World → Prop} {T : Array Value} {w : World}
    (hro : F.round = none) (h1 : 1 ≤ n) {gf : Nat} {lb : Array Value} (hg : (({ tmps := T, defers := [] } : Go.Act)).eval g = .func (.func gf) #[] lb) (hFg : F.fn gf) (eg : ∀ args w, (callFunc gf args).run P w = .ok (.enter gf args) w)
    {Kp : World → World → Prop} {S Sp : List Int → Prop} {N : Nat} {w0 : World} (hseq : SeqStopsK F (n - 1) P gf lb (fun x : Int => #[Value.int .i64 x]) Kp S Sp N w0)
    (hKt : ∀ {A B C : World}, Kp A B → Kp B C → Kp A C) (hKb : ∀ (W : World) (l : Nat) (o o' : Obj), w.heap.size ≤ l → W.heap[l]? = some o → o.isCells = false → o.isWalk = false → Kp W (W.putObj l o')) (hb0 : Below w0.heap.size w0 w)
    (I : List Int → World → Prop) (Bad : List Int → Prop) (hBad : ∀ pre, Sp pre → ¬ Bad pre) (hI : OwnFrom w.heap.size I) (h0 : I [] w)
    (hassign : ∀ (l : Nat) (x : Int) (W : World) (K : Go.Act → World → Prop), K (inRoundAct T p q x) W →
      assign.wpIn (F.inRound l) (n - 1 - 1) P (Exit.then K (fun _ _ _ => False)) { tmps := T.setIfInBounds p (.int .i64 x), defers := [] } W)
    (hbody : ∀ (l : Nat) (pre : List Int) (x : Int) (W : World), I pre W → pre.length < N → body.wpIn (F.inRound l) (n - 1 - 1) P (ownPostG w.heap.size Kp I (fun _ pre _ => Bad pre) (pre ++ [x]) W) (inRoundAct T p q x) W)
    (hdone : ∀ (D : Nat) (xs : List Int) (W : World), w.heap.size ≤ D → S xs → I xs W → W.heap[D]? = some (.deferred (some [])) → Q .normal { tmps := T, defers := [{ target := .collected D, args := #[] }] } W) :
    (Code.rangeFunc g #[p] assign body).wpIn F n P Q { tmps := T, defers := [] } w :=
  wpIn_rangeFunc_ownG hro h1 hg hFg eg hseq (fun h k => hKt h k) hKb hb0 (fun _ => rfl) I (fun _ pre _ => Bad pre) hI (fun _ _ _ _ _ hs _ _ => hs) h0 (inRoundAct T p q)
    (fun l x W K hK => by
      have h := hassign l x W K hK
      simpa using h) hbody hdone (fun _ _ _ _ _ hs h _ => absurd h (hBad _ hs))

end Go.Proofs.Ythpdphbppapkhaa
