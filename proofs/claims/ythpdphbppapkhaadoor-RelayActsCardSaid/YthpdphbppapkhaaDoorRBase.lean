/-
  What the reference relay's read is made of. Condition: the notes are as Notes says; what waits are bytes.
-/
import Derived.Test.YthpdphbppapkhaaDoorRWrite
namespace Go.Proofs.YthpdphbppapkhaaDoor
open Go.RowKit qb

theorem step_app5 {w : World} {ops : Array Oper} {o : Oper} {a : Go.Act} {K : Go.Act → World → Prop} {Q0 : Exit → Go.Act → World → Prop} {E : Prop} (hgd : o.guard = none) (s x : Operand)
    (ho : o.op = .call { callee := .builtin .append, args := #[s, x], argTypes := #[22, 22] }) (base : Nat) (v : Value) (xs ys : List Int) (n : Nat) (hs : a.eval s = v) (hown : w.ownsRow base 5 1 v n (xs.map fun x => .int .u8 x))
    (Q : List Nat) (sp : Option Addr) (m c : Nat) (hx : a.eval x = .slice sp m c) (hy : Slc w Q (.slice sp m c) ys) (hb : n + m ≤ 1000000) (hbase : base ≤ w.heap.size)
    (h : ∀ v' w', w'.ownsRow base 5 1 v' (n + m) ((xs ++ ys).map fun x => .int .u8 x) → w.grownBy w' v.ownBlock → K (a.put o.dst v') w') :
    if Region.wanted o (yielded ops a.tmps) = true then Oper.wp Tryd.prog o a w K Q0 else E := by
  have hw : Region.wanted o (yielded ops a.tmps) = true := by simp [Region.wanted, hgd]
  rw [if_pos hw]
  obtain ⟨v', w', hr, h2, h3⟩ := run_app5 o.type base v xs ys n hown Q sp m c hy hb hbase
  unfold Oper.wp execOp
  simp only [ho, resolve, invoke, builtin, Sem.run_bind, Sem.run_pure, Result.andThen_ok, List.map_toArray, List.map_cons, List.map_nil, hs, hx, hr]
  exact h v' w' h2 h3

theorem RefP.not5 {w : World} {m : Nat} {G : List Nat} {n : Nat} {s : Line} (h : RefP w m G n s) {k : Nat} {cs : Array Value} (hk : w.heap[k]? = some (.cells cs 5 (0, 0))) : k ∉ G := by
  obtain ⟨m0, m1, G0, G1, rfl, hm, h0, h1, _⟩ := h
  have hq : ∀ {q : Nat} {G : List Nat} {xs : List Int} {e : Bool}, RefQ w q G xs n e → k ∉ G := by
    intro q G xs e hq hm
    obtain ⟨v, hh, rfl, ho, _⟩ := hq
    rcases List.mem_cons.1 hm with rfl | hm
    · rw [hh] at hk; simp at hk
    · rcases ho.2 with ⟨hz, _⟩ | ⟨g, cap, cur, hz, _, hg2, _⟩
      · rw [hz] at hm; cases hm
      · rw [hz] at hm
        obtain rfl : k = g := by simpa [Value.ownBlock] using hm
        rw [hg2] at hk; simp at hk
  intro hk'
  rcases List.mem_cons.1 hk' with rfl | hk'
  · rw [hm] at hk; simp at hk
  · rcases List.mem_append.1 hk' with h | h
    · exact hq h0 h
    · exact hq h1 h

theorem own5_cells {w : World} {base : Nat} {v : Value} {n : Nat} {zs : List Value} (h : w.ownsRow base 5 1 v n zs) : ∀ k, k ∈ v.ownBlock.toList → ∃ cs, w.heap[k]? = some (.cells cs 5 (0, 0)) := by
  intro k hk
  rcases h.2 with ⟨hz, _⟩ | ⟨g, cap, cur, hz, _, hg2, _⟩
  · rw [hz] at hk; cases hk
  · rw [hz] at hk
    obtain rfl : k = g := by simpa [Value.ownBlock] using hk
    exact ⟨cur, hg2⟩

theorem times_got {s : RS} {ts : List Int} (h : TimesOk s ts) (d : Bool) (k : Nat) (t : Int) : topT (ts ++ [t]) = seeT s.t s.ok t ∧ TimesOk (got s d k t) (ts ++ [t]) := by
  have e : topT (ts ++ [t]) = seeT s.t s.ok t := by
    rw [topT_snoc]
    unfold seeT
    cases hok : s.ok
    · rw [h.ok0 hok]; simp
    · obtain ⟨h1, h2⟩ := h.ok1 hok
      rw [h2]
      simp [h1]
  refine ⟨e, fun h => (by cases h), fun _ => ⟨by simp, e⟩, ?_⟩
  show (ts ++ [t]).length = (s.evs ++ [_]).length
  simp [h.tl]

theorem infoT : (Tryd.prog.info? 2).map (fun i => (i.zero, i.size, i.bytes)) = some (some (.int .i64 0), 1, 8) := by kernel_rfl
theorem infoE7 : (Tryd.prog.info? 69).map (fun i => (i.zero, i.size, i.bytes)) = some (some (.agg #[.int .i64 0, .int .i64 0, .slice none 0 0]), 3, 40) := by kernel_rfl

/-- What the reading of k bytes leaves ahead of their waiting. -/
def RdMid (w w' : World) (r : Nat) (m : Bool → Nat) (N : Nat) (s : RS) (d : Bool) (k : Nat) (t : Int) (H : List Nat) (b : Value) : Prop :=
  ∃ ts Fs v vE vT evl Q col, RR w' r m N { got s d k t with w := s.w } ts Fs v vE vT evl Q col ∧ TimesOk (got s d k t) ts ∧ Gr w w' H (RH Fs r vE vT Q) ∧ Slc w' Q b (((s.l d).x d).take k)

theorem rd_end {w w' : World} {r : Nat} {m : Bool → Nat} {N : Nat} {s : RS} {d : Bool} {k : Nat} {t : Int} {H : List Nat} {b : Value} (h : RdMid w w' r m N s d k t H b) :
    (w'.cell? ⟨r, if d then 6 else 5, none⟩).isSome = true ∧ w'.frozen? ⟨r, if d then 6 else 5, none⟩ = false ∧ RGo w (w'.setCell ⟨r, if d then 6 else 5, none⟩ b) r m N H (got s d k t) := by
  obtain ⟨ts, Fs, v, vE, vT, evl, Q, col, h1, h2, h3, h4⟩ := h
  refine ⟨by rw [h1.cells]; cases d <;> rfl, h1.frozen _, _, ⟨ts, Fs, _, vE, vT, evl, Q, col, rfl, h1.wait d h4, h2⟩, h3.trans (gr_set _ _ _ _ _)⟩

theorem ref_end7 {w : World} {m : Nat} {G : List Nat} {n : Nat} {s : Line} (h : RefP w m G n s) (j : Bool) : ∃ q, w.cell? ⟨m, if j then 1 else 0, none⟩ = some (.pointer (some ⟨q, 0, none⟩)) ∧ w.frozen? ⟨q, 2, none⟩ = false ∧ w.cell? ⟨q, 2, none⟩ = some (.bool (s.e j)) ∧
    ∃ G', RefP (w.setCell ⟨q, 2, none⟩ (.bool true)) m G' n (s.set j (s.x j) true) ∧ Keeps G w (w.setCell ⟨q, 2, none⟩ (.bool true)) ∧ ∀ k, k ∈ G' → k ∈ G ∨ w.heap.size ≤ k := by
  obtain ⟨q, Gq, c0, hq, hsub, hset⟩ := h.way j
  obtain ⟨sp, sc, d0, d2, f2⟩ := hq.cells
  refine ⟨q, c0, f2, d2, hset _ Gq _ _ ?_ ?_ (fun _ h => .inl h)⟩
  · obtain ⟨v, hm, rfl, ho, h1, h2⟩ := hq
    refine ⟨v, heap_setCell_same w q 2 _ _ _ hm, rfl, ownsRow_setCell_other ho (fun e => ref_apart hm ho e) _, h1, h2⟩
  · obtain ⟨v, hm, rfl, ho, h1, h2⟩ := hq
    exact ⟨rfl, rfl, rfl, by simp, fun k hk hn => heap_setCell_other _ _ _ _ (fun e => hn (by simp [e]))⟩

theorem RR.same {w : World} {r : Nat} {m : Bool → Nat} {N : Nat} {s s' : RS} {ts : List Int} {Fs : Bool → List Nat} {v : Bool → Value} {vE vT : Value} {evl : List (Ev × Value)} {Q : List Nat} {col : Nat → Nat} (h : RR w r m N s ts Fs v vE vT evl Q col) (h1 : s'.l = s.l) (h2 : s'.w = s.w) (h3 : s'.o = s.o) (h4 : s'.evs = s.evs) : RR w r m N s' ts Fs v vE vT evl Q col :=
  { h with
    hl := by rw [h1]; exact h.hl
    hR := by rw [h3]; exact h.hR
    hw := by rw [h2]; exact h.hw
    row := by rw [h4]; exact h.row
    evq := by rw [h4]; exact h.evq }

theorem rd_mid {w w0 w7 w8 : World} {r : Nat} {m : Bool → Nat} {N : Nat} {s s4 : RS} {ts3 : List Int} {Fs3 : Bool → List Nat} {v : Bool → Value} {vE vT3 vE' u : Value} {evl' : List (Ev × Value)} {Q3 X : List Nat} {col9 : Nat → Nat} {d : Bool} {k : Nat} {t : Int} {H : List Nat} {b : Value} {z5 : Nat}
    (hg3 : Gr w w0 H (RH Fs3 r vE vT3 Q3)) (hz5 : w0.heap.size = z5) (hb7 : Below z5 w0 w7) (hX : ∀ x, x ∈ X → z5 ≤ x) (hg9 : Gr w7 (w8.setCell ⟨r, 2, none⟩ u) (RH Fs3 r vE vT3 (Q3 ++ X)) (RH Fs3 r vE' vT3 (Q3 ++ X)))
    (hr9 : RR (w8.setCell ⟨r, 2, none⟩ u) r m N s4 ts3 Fs3 v vE' vT3 evl' (Q3 ++ X) col9) (hto : TimesOk (got s d k t) ts3) (hs : Slc w8 (Q3 ++ X) b (((s.l d).x d).take k))
    (h1 : s4.l = (got s d k t).l) (h2 : s4.w = s.w) (h3 : s4.o = s.o) (h4 : s4.evs = (got s d k t).evs) : RdMid w (w8.setCell ⟨r, 2, none⟩ u) r m N s d k t H b := by
  subst hz5
  have hg7 : Gr w0 w7 (RH Fs3 r vE vT3 Q3) (RH Fs3 r vE vT3 (Q3 ++ X)) := by
    refine ⟨Keeps.of_below hb7 _, fun k hk => ?_⟩
    rcases mem_RH.1 hk with h | h | h | h | h
    · exact .inl (mem_RH.2 (.inl h))
    · exact .inl (mem_RH.2 (.inr (.inl h)))
    · exact .inl (mem_RH.2 (.inr (.inr (.inl h))))
    · exact .inl (mem_RH.2 (.inr (.inr (.inr (.inl h)))))
    · rcases List.mem_append.1 h with h | h
      · exact .inl (mem_RH.2 (.inr (.inr (.inr (.inr h)))))
      · exact .inr (hX k h)
  exact ⟨ts3, Fs3, v, vE', vT3, evl', _, col9, hr9.same h1.symm (by rw [h2]) (by rw [h3]; rfl) h4.symm, hto, (hg3.trans hg7).trans hg9, hs.keeps setR_keeps (fun k hk => by simpa using hr9.ne.2.1 k hk)⟩


/-- Where the notes are about to grow. -/
structure Base (w W0 : World) (r : Nat) (m : Bool → Nat) (N : Nat) (s : RS) (d : Bool) (k : Nat) (t : Int) (H : List Nat) (b : Value) (s3 : RS) (ts3 : List Int) (Fs3 : Bool → List Nat) (v : Bool → Value) (vE vT3 : Value) (evl : List (Ev × Value)) (Q3 : List Nat) (col3 : Nat → Nat)
    (sp : Option Addr) (ne sc : Nat) (side T : Int) (xs : List Int) (z5 : Nat) : Prop where
  g3 : Gr w W0 H (RH Fs3 r vE vT3 Q3)
  r3 : RR W0 r m N s3 ts3 Fs3 v vE vT3 evl Q3 col3
  ve : vE = .slice sp ne sc
  nE : s3.evs.length = ne
  tok : TimesOk (got s d k t) ts3
  sb : Slc W0 Q3 b xs
  xs' : ((s.l d).x d).take k = xs
  e1 : s3.evs = s.evs
  e2 : s3.w = s.w
  e3 : s3.o = s.o
  e4 : s3.l = (got s d k t).l
  ev : s.evs ++ [⟨side, T, xs⟩] = (got s d k t).evs
  z : W0.heap.size = z5
  tt : topT ts3 = T
  tl : 0 < ts3.length ∧ ts3.length ≤ 4097

section
variable {w W0 w5 w6 w7 w8 : World} {r : Nat} {m : Bool → Nat} {N : Nat} {s : RS} {d : Bool} {k : Nat} {t : Int} {H : List Nat} {b : Value} {s3 : RS} {ts3 : List Int} {Fs3 : Bool → List Nat} {v : Bool → Value} {vE vT3 : Value} {evl : List (Ev × Value)} {Q3 : List Nat} {col3 : Nat → Nat}
    {sp : Option Addr} {ne sc : Nat} {side T : Int} {xs : List Int} {z5 : Nat}

theorem Base.cells (B : Base w W0 r m N s d k t H b s3 ts3 Fs3 v vE vT3 evl Q3 col3 sp ne sc side T xs z5) {W : World} (hb : Below z5 W0 W) : W.cell? ⟨r, 2, none⟩ = some (.slice sp ne sc) ∧ W.cell? ⟨r, 7, none⟩ = some vT3 ∧ Slc W Q3 b xs ∧ RR W r m N s3 ts3 Fs3 v vE vT3 evl Q3 col3 := by
  have hb' : Below W0.heap.size W0 W := by rw [B.z]; exact hb
  have h := B.r3.below hb'
  exact ⟨by rw [← B.ve]; exact h.cells 2, h.cells 7, B.sb.below hb', h⟩

theorem Base.empty (B : Base w (W0.drewN 1) r m N s d k t H b s3 ts3 Fs3 v vE vT3 evl Q3 col3 sp ne sc side T xs z5) (h5 : (W0.alloc (.cells #[] 5)).drew = w5) :
    Below z5 (W0.drewN 1) w5 ∧ w5.ownsRow z5 5 1 (.slice (some ⟨z5, 0, none⟩) 0 0) 0 (([] : List Int).map fun x => .int .u8 x) ∧ z5 ≤ w5.heap.size := by
  have hz : W0.heap.size = z5 := B.z
  have hb : Below z5 (W0.drewN 1) w5 := by
    rw [← h5, ← hz]
    exact (show Below (W0.drewN 1).heap.size (W0.drewN 1) ((W0.drewN 1).alloc (.cells #[] 5)) from (Below.refl _ _).alloc (Nat.le_refl _) _)
  refine ⟨hb, by rw [← h5, ← hz]; exact own_new5 W0, ?_⟩
  have := hb.size
  have hz' : (W0.drewN 1).heap.size = z5 := B.z
  omega

theorem Base.data (B : Base w W0 r m N s d k t H b s3 ts3 Fs3 v vE vT3 evl Q3 col3 sp ne sc side T xs z5) (hb5 : Below z5 W0 w5) (hz5 : z5 ≤ w5.heap.size) {dv : Value} (hown : w6.ownsRow z5 5 1 dv (0 + k) (([] ++ xs).map fun x => .int .u8 x)) (hg : w5.grownBy w6 (Value.slice (some ⟨z5, 0, none⟩) 0 0).ownBlock) :
    ∃ da dc, dv = .slice da k dc ∧ Below z5 W0 w6 ∧ Slc w6 (Q3 ++ dv.ownBlock.toList) dv xs ∧ Slc w6 (Q3 ++ dv.ownBlock.toList) b xs ∧ (∃ col6, RR w6 r m N s3 ts3 Fs3 v vE vT3 evl (Q3 ++ dv.ownBlock.toList) col6) ∧ (∀ x, x ∈ dv.ownBlock.toList → z5 ≤ x) ∧ z5 ≤ w6.heap.size := by
  have hb6 : Below z5 W0 w6 := hb5.grown hg hz5 (fun j hj => by
    have : z5 = j := Option.some.inj hj
    omega)
  rw [Nat.zero_add, List.nil_append] at hown
  obtain ⟨da, dc, rfl⟩ := own_form hown
  obtain ⟨_, _, h3, h4⟩ := B.cells hb6
  have hX : ∀ x, x ∈ (Value.slice da k dc).ownBlock.toList → z5 ≤ x := fun x hx => (row_lt hown x hx).1
  have hz : W0.heap.size = z5 := B.z
  refine ⟨da, dc, rfl, hb6, (Slc.of_own hown).mono (fun x hx => List.mem_append.2 (.inr hx)), h3.mono (fun x hx => List.mem_append.2 (.inl hx)), h4.more _ (fun x hx => ⟨(row_lt hown x hx).2, fun hm => ?_⟩), hX, by have := hb6.size; omega⟩
  have h1 := hX x hx
  have h2 := B.r3.lt x hm
  omega

theorem Base.fin (B : Base w W0 r m N s d k t H b s3 ts3 Fs3 v vE vT3 evl Q3 col3 sp ne sc side T xs z5) {X : List Nat} {col6 : Nat → Nat} {dv : Value} {g cap : Nat} (hb7 : Below z5 W0 w7) (hX : ∀ x, x ∈ X → z5 ≤ x) (hr7 : RR w7 r m N s3 ts3 Fs3 v vE vT3 evl (Q3 ++ X) col6) (hd : Slc w7 (Q3 ++ X) dv xs) (hs : Slc w7 (Q3 ++ X) b xs)
    (hown : w8.ownsRow 0 69 3 (.slice (some ⟨g, 0, none⟩) (ne + 1) cap) (ne + 1) (evCells evl ++ [.int .i64 side, .int .i64 T, dv])) (hg : w7.grownBy w8 (Value.slice sp ne sc).ownBlock) (hat : (Value.slice sp ne sc).ownBlock = some g ∨ g = w7.heap.size) :
    w8.cell? ⟨r, 2, none⟩ = some (.slice sp ne sc) ∧ w8.frozen? ⟨r, 2, none⟩ = false ∧ w8.cell? ⟨r, 7, none⟩ = some vT3 ∧ (w8.setCell ⟨r, 2, none⟩ (.slice (some ⟨g, 0, none⟩) (ne + 1) cap)).cell? ⟨r, 7, none⟩ = some vT3 ∧
      RdMid w (w8.setCell ⟨r, 2, none⟩ (.slice (some ⟨g, 0, none⟩) (ne + 1) cap)) r m N s d k t H b := by
  have hg' : w7.grownBy w8 vE.ownBlock := by rw [B.ve]; exact hg
  obtain ⟨⟨col9, hR9⟩, hgr9⟩ := hr7.note (w4 := w8) (vE' := .slice (some ⟨g, 0, none⟩) (ne + 1) cap) (d := dv) (e := ⟨side, T, xs⟩) hg' (by rw [B.nE]; exact hown)
    (by rw [B.ve]; exact hat.elim (fun h => .inl (by rw [h]; rfl)) (fun h => .inr ⟨g, rfl, by omega⟩)) hd
  obtain ⟨_, _, hRb, hsb, _⟩ := hr7.grown hg' 5 hr7.cE
  have hRb' := hRb (by omega)
  refine ⟨by rw [← B.ve]; exact cell_at hRb' 2, frozen_of_row _ _ _ _ _ hRb', cell_at hRb' 7, hR9.cells 7, ?_⟩
  exact rd_mid B.g3 B.z hb7 hX hgr9 hR9 B.tok (by rw [B.xs']; exact hsb (by omega) hs) B.e4 B.e2 B.e3 (by show s3.evs ++ _ = _; rw [B.e1]; exact B.ev)
end

end Go.Proofs.YthpdphbppapkhaaDoor
