/-
  The walk of PtyPrefix. Condition: the table 'other' reads as the program's text lays it.
-/
import Derived.Test.YthpdphbppapkhaaDoorActs
import Derived.BigQuiet
import Derived.RegionTactic
import Derived.Deep.RegionHeld3
namespace Go.Proofs.YthpdphbppapkhaaDoor.ptyPrefix
open Go.RowKit qb

attribute [local go_sem] Oper.semAt_some

theorem strOf_append (xs ys : List Int) : strOfNums xs ++ strOfNums ys = strOfNums (xs ++ ys) := by
  apply ByteArray.ext
  simp [strOfNums]

/-- What holds round by round: the line, and what was written and read. -/
structure St (w0 wr : World) (B p N wa wb i : Nat) (r0 r1 x0 x1 : List Int) (e0 e1 : Bool) (F : List Nat) : Prop where
  line : IsP wr p F N ⟨x0, x1, e0, e1⟩
  fresh : Fresh B w0 wr F
  ca : wr.heap[wa]? = some (.cells #[.string (strOfNums (r1 ++ x1)), .string (strOfNums (r0 ++ x0))] 36 (0, 0))
  cb : wr.heap[wb]? = some (.cells #[.string (strOfNums r0), .string (strOfNums r1)] 36 (0, 0))
  na : wa ∉ F
  nb : wb ∉ F
  hab : wa ≠ wb
  la : B ≤ wa
  lb : B ≤ wb
  s0 : (r0 ++ x0).length ≤ 100 * i
  s1 : (r1 ++ x1).length ≤ 100 * i
  sz : B ≤ wr.heap.size
  pos : 0 < B

section
variable {w0 wr w' : World} {B p N wa wb i : Nat} {r0 r1 x0 x1 : List Int} {e0 e1 : Bool} {F F' : List Nat}

theorem St.below (h : St w0 wr B p N wa wb i r0 r1 x0 x1 e0 e1 F) (hb : Below wr.heap.size wr w') : St w0 w' B p N wa wb i r0 r1 x0 x1 e0 e1 F :=
  ⟨h.line.below hb (Nat.le_refl _), h.fresh.keeps h.sz (Keeps.of_below hb F) (fun _ h => .inl h), (hb.block _ (Array.getElem?_eq_some_iff.1 h.ca).1).trans h.ca, (hb.block _ (Array.getElem?_eq_some_iff.1 h.cb).1).trans h.cb,
    h.na, h.nb, h.hab, h.la, h.lb, h.s0, h.s1, Nat.le_trans h.sz hb.size, h.pos⟩

theorem St.alloc (h : St w0 wr B p N wa wb i r0 r1 x0 x1 e0 e1 F) (o : Obj) : St w0 (wr.alloc o) B p N wa wb i r0 r1 x0 x1 e0 e1 F :=
  h.below ((Below.refl _ _).alloc (Nat.le_refl _) _)

theorem St.drewN (h : St w0 wr B p N wa wb i r0 r1 x0 x1 e0 e1 F) (k : Nat) : St w0 (wr.drewN k) B p N wa wb i r0 r1 x0 x1 e0 e1 F :=
  h.below (below_drewN (Below.refl _ _) k)

/-- A call of the line keeps the two tables. -/
theorem St.kept (h : St w0 wr B p N wa wb i r0 r1 x0 x1 e0 e1 F) (hk : Keeps F wr w') : w'.heap[wa]? = wr.heap[wa]? ∧ w'.heap[wb]? = wr.heap[wb]? :=
  ⟨hk.block _ (Array.getElem?_eq_some_iff.1 h.ca).1 h.na, hk.block _ (Array.getElem?_eq_some_iff.1 h.cb).1 h.nb⟩

theorem St.out (h : St w0 wr B p N wa wb i r0 r1 x0 x1 e0 e1 F) (hs : ∀ k, k ∈ F' → k ∈ F ∨ wr.heap.size ≤ k) : wa ∉ F' ∧ wb ∉ F' := by
  have h1 := (Array.getElem?_eq_some_iff.1 h.ca).1
  have h2 := (Array.getElem?_eq_some_iff.1 h.cb).1
  constructor
  · intro hm
    rcases hs _ hm with h' | h'
    · exact h.na h'
    · omega
  · intro hm
    rcases hs _ hm with h' | h'
    · exact h.nb h'
    · omega

/-- Where a cell of the table of what was written is stored into. -/
theorem line_set {c : Nat} {v : Value} {s : Line} (h : IsP w' p F' N s) (hn : wa ∉ F') (h0 : 0 < wa) : IsP (w'.setCell ⟨wa, c, none⟩ v) p F' N s :=
  h.same (fun k hk => heap_setCell_other _ _ _ _ (fun e => hn (by have e' : k = wa := e; rw [← e']; exact hk))) (heap_setCell_other _ _ _ _ (fun e => by have e' : 0 = wa := e; omega))

/-- Behind a Write of side 0 and the note of it. -/
theorem St.wrote0 (h : St w0 wr B p N wa wb i r0 r1 x0 x1 e0 e1 F) (ys : List Int) (hy : ys.length ≤ 100) (hp : IsP w' p F' N ⟨x0, x1 ++ ys, e0, e1⟩) (hk : Keeps F wr w') (hs : ∀ k, k ∈ F' → k ∈ F ∨ wr.heap.size ≤ k) :
    St w0 (w'.setCell ⟨wa, 0, none⟩ (.string (strOfNums (r1 ++ x1) ++ strOfNums ys))) B p N wa wb (i + 1) r0 r1 x0 (x1 ++ ys) e0 e1 F' := by
  obtain ⟨k1, k2⟩ := h.kept hk
  obtain ⟨n1, n2⟩ := h.out hs
  have hf := h.fresh.keeps h.sz hk hs
  have hla := h.la
  have hpos := h.pos
  refine ⟨line_set hp n1 (by omega), ⟨hf.1.setCell h.la _, hf.2⟩, ?_, (heap_setCell_other _ _ _ _ (fun e => h.hab e.symm)).trans (k2.trans h.cb), n1, n2, h.hab, h.la, h.lb, by have := h.s0; omega, ?_, by have := h.sz; have := hk.size; simp; omega, h.pos⟩
  · rw [strOf_append, List.append_assoc]
    exact heap_setCell_same w' wa 0 _ _ _ (k1.trans h.ca)
  · have := h.s1
    simp at this ⊢
    omega

/-- .. of side 1. -/
theorem St.wrote1 (h : St w0 wr B p N wa wb i r0 r1 x0 x1 e0 e1 F) (ys : List Int) (hy : ys.length ≤ 100) (hp : IsP w' p F' N ⟨x0 ++ ys, x1, e0, e1⟩) (hk : Keeps F wr w') (hs : ∀ k, k ∈ F' → k ∈ F ∨ wr.heap.size ≤ k) :
    St w0 (w'.setCell ⟨wa, 1, none⟩ (.string (strOfNums (r0 ++ x0) ++ strOfNums ys))) B p N wa wb (i + 1) r0 r1 (x0 ++ ys) x1 e0 e1 F' := by
  obtain ⟨k1, k2⟩ := h.kept hk
  obtain ⟨n1, n2⟩ := h.out hs
  have hf := h.fresh.keeps h.sz hk hs
  have hla := h.la
  have hpos := h.pos
  refine ⟨line_set hp n1 (by omega), ⟨hf.1.setCell h.la _, hf.2⟩, ?_, (heap_setCell_other _ _ _ _ (fun e => h.hab e.symm)).trans (k2.trans h.cb), n1, n2, h.hab, h.la, h.lb, ?_, by have := h.s1; omega, by have := h.sz; have := hk.size; simp; omega, h.pos⟩
  · rw [strOf_append, List.append_assoc]
    exact heap_setCell_same w' wa 1 _ _ _ (k1.trans h.ca)
  · have := h.s0
    simp at this ⊢
    omega

/-- Behind a Read of side 0 and the note of it. -/
theorem St.read0 (h : St w0 wr B p N wa wb i r0 r1 x0 x1 e0 e1 F) (q : Nat) (hp : IsP w' p F N ⟨x0.drop q, x1, e0, e1⟩) (hk : Keeps F wr w') :
    St w0 (w'.setCell ⟨wb, 0, none⟩ (.string (strOfNums r0 ++ strOfNums (x0.take q)))) B p N wa wb (i + 1) (r0 ++ x0.take q) r1 (x0.drop q) x1 e0 e1 F := by
  obtain ⟨k1, k2⟩ := h.kept hk
  have hf := h.fresh.keeps h.sz hk (fun _ h => .inl h)
  have hlb := h.lb
  have hpos := h.pos
  have e : (r0 ++ x0.take q) ++ x0.drop q = r0 ++ x0 := by rw [List.append_assoc, List.take_append_drop]
  refine ⟨line_set hp h.nb (by omega), ⟨hf.1.setCell h.lb _, hf.2⟩, ?_, ?_, h.na, h.nb, h.hab, h.la, h.lb, by rw [e]; have := h.s0; omega, by have := h.s1; omega, by have := h.sz; have := hk.size; simp; omega, h.pos⟩
  · rw [e]
    exact (heap_setCell_other _ _ _ _ h.hab).trans (k1.trans h.ca)
  · rw [strOf_append]
    exact heap_setCell_same w' wb 0 _ _ _ (k2.trans h.cb)

theorem St.read1 (h : St w0 wr B p N wa wb i r0 r1 x0 x1 e0 e1 F) (q : Nat) (hp : IsP w' p F N ⟨x0, x1.drop q, e0, e1⟩) (hk : Keeps F wr w') :
    St w0 (w'.setCell ⟨wb, 1, none⟩ (.string (strOfNums r1 ++ strOfNums (x1.take q)))) B p N wa wb (i + 1) r0 (r1 ++ x1.take q) x0 (x1.drop q) e0 e1 F := by
  obtain ⟨k1, k2⟩ := h.kept hk
  have hf := h.fresh.keeps h.sz hk (fun _ h => .inl h)
  have hlb := h.lb
  have hpos := h.pos
  have e : (r1 ++ x1.take q) ++ x1.drop q = r1 ++ x1 := by rw [List.append_assoc, List.take_append_drop]
  refine ⟨line_set hp h.nb (by omega), ⟨hf.1.setCell h.lb _, hf.2⟩, ?_, ?_, h.na, h.nb, h.hab, h.la, h.lb, by have := h.s0; omega, by rw [e]; have := h.s1; omega, by have := h.sz; have := hk.size; simp; omega, h.pos⟩
  · rw [e]
    exact (heap_setCell_other _ _ _ _ h.hab).trans (k1.trans h.ca)
  · rw [strOf_append]
    exact heap_setCell_same w' wb 1 _ _ _ (k2.trans h.cb)

/-- Behind a Hang, and behind nothing. -/
theorem St.hung {f0 f1 : Bool} (h : St w0 wr B p N wa wb i r0 r1 x0 x1 e0 e1 F) (hp : IsP w' p F N ⟨x0, x1, f0, f1⟩) (hk : Keeps F wr w') : St w0 w' B p N wa wb (i + 1) r0 r1 x0 x1 f0 f1 F := by
  obtain ⟨k1, k2⟩ := h.kept hk
  exact ⟨hp, h.fresh.keeps h.sz hk (fun _ h => .inl h), k1.trans h.ca, k2.trans h.cb, h.na, h.nb, h.hab, h.la, h.lb, by have := h.s0; omega, by have := h.s1; omega, Nat.le_trans h.sz hk.size, h.pos⟩

theorem St.more (h : St w0 wr B p N wa wb i r0 r1 x0 x1 e0 e1 F) : St w0 wr B p N wa wb (i + 1) r0 r1 x0 x1 e0 e1 F := h.hung h.line (Keeps.refl _ _)
end

theorem i64_and1 (n : Int) : bits .and .i64 n 1 = n % 2 := by
  have h1 : (BitVec.ofInt 64 1).toNat = 2 ^ 1 - 1 := by decide
  have key : (BitVec.ofInt 64 n &&& BitVec.ofInt 64 1).toNat = (n % ((2 ^ 64 : Nat) : Int)).toNat % 2 ^ 1 := by
    rw [BitVec.toNat_and, BitVec.toNat_ofInt, h1, Nat.and_two_pow_sub_one_eq_mod]
  show IntKind.i64.wrap ((BitVec.ofInt 64 n &&& BitVec.ofInt 64 1).toNat : Nat) = n % 2
  rw [key, IntKind.wrap_i64]
  omega

/-- Whatever the round: some state holds. -/
def Any (w0 wr : World) (B p N wa wb i : Nat) : Prop := ∃ r0 r1 x0 x1 e0 e1 F, St w0 wr B p N wa wb i r0 r1 x0 x1 e0 e1 F

theorem begins (r x : List Int) : (strOfNums (r ++ x)).extract 0 (strOfNums r).size = strOfNums r := by
  apply ByteArray.ext
  simp [strOfNums, ByteArray.size]

set_option maxRecDepth 100000 in
set_option maxHeartbeats 20000000 in
theorem walk (a0 : Int) (a1 : Option Addr) (len1 cap1 : Nat) (acts : List Act) (w : World) (_h0 : I64 a0) (h1 : IsActs w a1 len1 cap1 acts) (ho : Oth w) :
    Calls Tryd.prog 4 #[.int .i64 a0, .slice a1 len1 cap1] w fun e w' => e = .returned (.bool true) ∧ Below w.heap.size w w' := by
  have HO := Lib.hid ho
  have HG := Lib.hid h1
  clear ho h1
  by_cases hg : isGreat 100 acts = true
  · go_enter Tryd.func4, Tryd.ntmps4
    go_wp2_with fail
    refine (alive_any w HO.out).mono ?_
    rintro e w1 ⟨rfl, hb1⟩
    go_wp2_with fail
    refine (great_any a1 len1 cap1 acts w1 (IsActs.below HG.out hb1)).mono ?_
    rintro e w2 ⟨rfl, hb2⟩
    rw [hg]
    go_wp2_with fail
    refine (alive_any w2 ((HO.out.below hb1 (Nat.le_refl _)).below hb2 (Nat.le_refl _))).mono ?_
    rintro e w3 ⟨rfl, hb3⟩
    go_wp2_with fail
    go_ret
    exact ⟨rfl, (hb1.trans (hb2.mono hb1.size)).trans (hb3.mono (Nat.le_trans hb1.size hb2.size))⟩
  · obtain ⟨B, hB⟩ : ∃ B, w.heap.size = B := ⟨_, rfl⟩
    go_enter Tryd.func4, Tryd.ntmps4
    go_wp2_with fail
    refine (alive_any w HO.out).mono ?_
    rintro e w1 ⟨rfl, hb1⟩
    go_wp2_with fail
    refine (great_any a1 len1 cap1 acts w1 (IsActs.below HG.out hb1)).mono ?_
    rintro e w2 ⟨rfl, hb2⟩
    have hlen : len1 ≤ 100 := by
      have h3 := HG.out.2.2.1
      have := hg
      unfold isGreat at this
      simp at this
      omega
    have hll : ∀ act, act ∈ acts → act.l.length ≤ 100 := by
      intro act hm
      have := hg
      unfold isGreat at this
      simp at this
      exact this.2 act hm
    have HLL : Hid _ := hll
    rw [Bool.not_eq_true] at hg
    rw [hg]
    have ho2 : Oth w2 := (HO.out.below hb1 (Nat.le_refl _)).below hb2 (Nat.le_refl _)
    have hb12 : Below B w w2 := by rw [← hB]; exact hb1.trans (hb2.mono hb1.size)
    have HO2 := Lib.hid ho2
    have HB2 := Lib.hid hb12
    clear hg hll ho2 hb12 hb1 hb2
    go_upto_region 3 with fail
    go_cut [5, 6] (fun v5 v6 w' => ∃ p F, ∃ N : Nat, v5 = .pointer (some ⟨p, 0, none⟩) ∧ v6 = .int .i64 0 ∧ IsP w' p F N ⟨[], [], false, false⟩ ∧ Fresh B w w' F)
    case first =>
      go_wp2_with (go_at_call 14; refine (p_new _ (by omega) (by omega) w2 HO2.out).mono ?_; rintro e w' ⟨p, F, rfl, hp, hb1, hF⟩; have hbb := HB2.out.size)
      all_goals (go_meet; exact ⟨p, F, _, rfl, rfl, hp, HB2.out.trans (hb1.mono (by omega)), fun k hk => by have := hF k hk; omega⟩)
    case rest =>
    obtain ⟨p, F, N, rfl, rfl, hp, hf⟩ := hcut
    have HP := Lib.hid hp
    have HF := Lib.hid hf
    clear hp hf
    obtain ⟨wa, hwa⟩ : ∃ wa, wc.heap.size = wa := ⟨_, rfl⟩
    have hwB : B ≤ wa := by have := HF.out.1.size; omega
    have hst : Any w ((wc.alloc (.cells #[.string ⟨#[]⟩, .string ⟨#[]⟩] 36)).alloc (.cells #[.string ⟨#[]⟩, .string ⟨#[]⟩] 36)) B p N wa (wa + 1) 0 := by
      have hp1 := (HP.out.below ((Below.refl _ wc).alloc (Nat.le_refl _) (.cells #[.string ⟨#[]⟩, .string ⟨#[]⟩] 36)) (Nat.le_refl _))
      have hp2 := (hp1.below ((Below.refl _ _).alloc (Nat.le_refl _) (.cells #[.string ⟨#[]⟩, .string ⟨#[]⟩] 36)) (Nat.le_refl _))
      have hlt := HP.out.lt
      refine ⟨[], [], [], [], false, false, F, hp2, ⟨(HF.out.1.alloc (by omega) _).alloc (by simp; omega) _, HF.out.2⟩, ?_, ?_, fun hm => by have := hlt _ hm; omega, fun hm => by have := hlt _ hm; omega, by omega, hwB, by omega, by simp, by simp, by simp; omega, by rw [← hB]; exact HO.out.pos⟩
      · rw [heap_alloc_old _ _ (by simp; omega), ← hwa]
        exact heap_alloc_new wc _
      · have := heap_alloc_new (wc.alloc (.cells #[.string ⟨#[]⟩, .string ⟨#[]⟩] 36)) (.cells #[.string ⟨#[]⟩, .string ⟨#[]⟩] 36)
        rw [World.size_alloc, hwa] at this
        exact this
    have HA : Hid (∀ i, i < len1 → ∃ b off act, a1 = some ⟨b, off, none⟩ ∧ b < w.heap.size ∧ acts[i]? = some act ∧ IsAct w b (off + i * 4) act) := HG.out.2.2.2
    have hcap : len1 ≤ cap1 := HG.out.1
    have hcm := HG.out.2.1
    unfold maxLen at hcm
    clear HP HF HG
    go_wp2_with fail
    go_loopg [38] len1 (fun g v38 wr => ∃ i : Nat, i + g = len1 ∧ v38 = .int .i64 i ∧ Any w wr B p N wa (wa + 1) i)
    case atStart => exact ⟨0, by omega, rfl, hst⟩
    case round =>
      clear hst
      obtain ⟨i, hi, rfl, r0, r1, x0, x1, e0, e1, F, hst⟩ := hrel
      by_cases hlt : i < len1
      · obtain ⟨ab, ao, ⟨kd, sdv, nn, ll⟩, rfl, hab, hact, la, ln, lc, c0, c1, c2, c3, hl, _⟩ := HA.out i hlt
        have hbel := hst.fresh.1
        rw [← hB] at hbel
        have d0 := (hbel.cell (p := ⟨ab, ao + i * 4, none⟩) hab).trans c0
        have d1 := (hbel.cell (p := ⟨ab, ao + i * 4 + 1, none⟩) hab).trans c1
        have d2 := (hbel.cell (p := ⟨ab, ao + i * 4 + 2, none⟩) hab).trans c2
        have d3 := (hbel.cell (p := ⟨ab, ao + i * 4 + 3, none⟩) hab).trans c3
        have HL := Lib.hid hl
        have hln : ll.length ≤ 100 := HLL.out _ (List.mem_of_getElem? hact)
        have HLN := Lib.hid hln
        have HST := Lib.hid (hst.alloc (.cells #[.int .i64 kd, .int .i64 sdv, .int .i64 nn, .slice la ln lc] 38))
        obtain ⟨C, hC⟩ : ∃ C, wr.heap.size = C := ⟨_, rfl⟩
        obtain ⟨W1, hW1⟩ : ∃ W1, wr.alloc (.cells #[.int .i64 kd, .int .i64 sdv, .int .i64 nn, .slice la ln lc] 38) = W1 := ⟨_, rfl⟩
        have hbox : W1.heap[C]? = some (.cells #[.int .i64 kd, .int .i64 sdv, .int .i64 nn, .slice la ln lc] 38 (0, 0)) := by rw [← hW1, ← hC]; exact heap_alloc_new wr _
        rw [hW1] at HST
        have HBOX := Lib.hid hbox
        have g0 : W1.cell? ⟨C, 0, none⟩ = some (.int .i64 kd) := cell_at hbox 0
        have g1 : W1.cell? ⟨C, 1, none⟩ = some (.int .i64 sdv) := cell_at hbox 1
        have g2 : W1.cell? ⟨C, 2, none⟩ = some (.int .i64 nn) := cell_at hbox 2
        have g3 : W1.cell? ⟨C, 3, none⟩ = some (.slice la ln lc) := cell_at hbox 3
        have hCF : C ∉ F := fun hm => by have := hst.line.lt _ hm; omega
        have hGV : Hid (qb.GivenIn W1 F la ln lc ll) := IsBytes.given HL.out (by rw [hB]; exact HST.out.fresh.1) (by rw [hB]; exact HST.out.fresh.2)
        have hlnn : ll.length = ln := hl.2.2.1
        have hlc1 := hl.1
        have hlc2 := hl.2.1
        unfold maxLen at hlc2
        have HLL2 := Lib.hid hlnn
        clear c0 c1 c2 c3 hl hln hst hbel hact hbox hlnn
        go_upto_region 10 with fail
        go_cut [11] (fun v11 w' => ∃ j : Bool, v11 = .int .i64 (sd j) ∧ W1 = w')
        case first =>
          go_wp2_with fail
          go_meet
          rw [i64_and1]
          have : sdv % 2 = 0 ∨ sdv % 2 = 1 := by omega
          rcases this with h | h
          · exact ⟨false, by rw [h]; rfl, rfl⟩
          · exact ⟨true, by rw [h]; rfl, rfl⟩
        case rest =>
        obtain ⟨j, rfl, rfl⟩ := hcut
        go_upto_block 2 with fail
        go_cut [] (fun w' => Any w w' B p N wa (wa + 1) (i + 1))
        case first =>
          by_cases k0 : kd = 0
          · subst k0
            cases j
            · simp only [sd, Bool.false_eq_true, if_false]
              go_wp2_with fail
              refine (p_write_at HST.out.line true 0 rfl _ _ _ _ hGV.out x1 e1 rfl rfl).mono ?_
              obtain ⟨k, hk⟩ : ∃ k, took ln x1.length N e1 = k := ⟨_, rfl⟩
              rw [hk]
              rintro e w3 ⟨rfl, F3, hp3, hk3, hs3⟩
              have hkl : k ≤ ln := by rw [← hk]; exact took_le _ _ _ _
              have HN := Lib.hid (HST.out.wrote0 (ll.take k) (by have := HLN.out; simp; omega) hp3 hk3 hs3)
              have b3 : w3.cell? ⟨C, 3, none⟩ = some (.slice la ln lc) := cell_at ((hk3.block C (Array.getElem?_eq_some_iff.1 HBOX.out).1 hCF).trans HBOX.out) 3
              have ca := cell_at ((HST.out.kept hk3).1.trans HST.out.ca) 0
              have ca0 : w3.cell? ⟨wa, 0, none⟩ = some (.string (strOfNums (r1 ++ x1))) := ca
              have ca1 : w3.frozen? ⟨wa, 0, none⟩ = false := frozen_of_row _ _ _ _ _ ((HST.out.kept hk3).1.trans HST.out.ca)
              have hb3 := (HST.out.fresh.keeps HST.out.sz hk3 hs3).1
              rw [← hB] at hb3
              have hcv : (convert 22 9 (.slice la k lc)).run Tryd.prog w3.drew = .ok (.string (strOfNums (ll.take k))) w3.drew := ((HL.out.cut hkl).below (w' := w3.drew) (below_drewN hb3 1)).conv
              have sz1 : (strOfNums (r1 ++ x1)).size ≤ 10000 := by rw [strOfNums_size]; have := HST.out.s1; omega
              have sz2 : (strOfNums (ll.take k)).size ≤ 100 := by rw [strOfNums_size]; have := HLN.out; simp; omega
              clear hp3 hk3 hs3 HST HBOX hb3 g0 g1 g2 g3 hk ca
              go_wp2_with fail
              go_region
              all_goals (go_wp2_with fail; go_meet)
              all_goals exact ⟨_, _, _, _, _, _, _, HN.out.drewN 1⟩
            · simp only [sd, if_true]
              go_wp2_with fail
              refine (p_write_at HST.out.line false 1 rfl _ _ _ _ hGV.out x0 e0 rfl rfl).mono ?_
              obtain ⟨k, hk⟩ : ∃ k, took ln x0.length N e0 = k := ⟨_, rfl⟩
              rw [hk]
              rintro e w3 ⟨rfl, F3, hp3, hk3, hs3⟩
              have hkl : k ≤ ln := by rw [← hk]; exact took_le _ _ _ _
              have HN := Lib.hid (HST.out.wrote1 (ll.take k) (by have := HLN.out; simp; omega) hp3 hk3 hs3)
              have b3 : w3.cell? ⟨C, 3, none⟩ = some (.slice la ln lc) := cell_at ((hk3.block C (Array.getElem?_eq_some_iff.1 HBOX.out).1 hCF).trans HBOX.out) 3
              have ca := cell_at ((HST.out.kept hk3).1.trans HST.out.ca) 1
              have ca0 : w3.cell? ⟨wa, 1, none⟩ = some (.string (strOfNums (r0 ++ x0))) := ca
              have ca1 : w3.frozen? ⟨wa, 1, none⟩ = false := frozen_of_row _ _ _ _ _ ((HST.out.kept hk3).1.trans HST.out.ca)
              have hb3 := (HST.out.fresh.keeps HST.out.sz hk3 hs3).1
              rw [← hB] at hb3
              have hcv : (convert 22 9 (.slice la k lc)).run Tryd.prog w3.drew = .ok (.string (strOfNums (ll.take k))) w3.drew := ((HL.out.cut hkl).below (w' := w3.drew) (below_drewN hb3 1)).conv
              have sz1 : (strOfNums (r0 ++ x0)).size ≤ 10000 := by rw [strOfNums_size]; have := HST.out.s0; omega
              have sz2 : (strOfNums (ll.take k)).size ≤ 100 := by rw [strOfNums_size]; have := HLN.out; simp; omega
              clear hp3 hk3 hs3 HST HBOX hb3 g0 g1 g2 g3 hk ca
              go_wp2_with fail
              go_region
              all_goals (go_wp2_with fail; go_meet)
              all_goals exact ⟨_, _, _, _, _, _, _, HN.out.drewN 1⟩
          · have z0 : (kd == 0) = false := by simpa using k0
            by_cases k1 : kd = 1
            · subst k1
              cases j
              · simp only [sd, Bool.false_eq_true, if_false]
                have cb : W1.cell? ⟨wa + 1, 0, none⟩ = some (.string (strOfNums r0)) := cell_at HST.out.cb 0
                have sz1 : (strOfNums r0).size ≤ 10000 := by rw [strOfNums_size]; have := HST.out.s0; simp at this; omega
                go_wp2_with fail
                go_region_with (go_at_call 17; refine (p_read_at (HST.out.drewN 1).line false 0 rfl nn x0 e0 rfl rfl).mono ?_; rintro e w3 ⟨sp, sc, rfl, hown, hp3, hk3⟩; have hcv := conv_own hown; have HN := Lib.hid ((HST.out.drewN 1).read0 _ hp3 hk3); have cb0 : w3.cell? ⟨wa + 1, 0, none⟩ = some (.string (strOfNums r0)) := cell_at (((HST.out.drewN 1).kept hk3).2.trans HST.out.cb) 0; have cb1 : w3.frozen? ⟨wa + 1, 0, none⟩ = false := frozen_of_row _ _ _ _ _ (((HST.out.drewN 1).kept hk3).2.trans HST.out.cb); have sz2 : (strOfNums (x0.take (count nn x0.length))).size ≤ 10000 := (by rw [strOfNums_size]; have := HST.out.s0; simp at this ⊢; omega); clear hown hp3 hk3)
                all_goals (go_wp2_with fail; go_meet; exact ⟨_, _, _, _, _, _, _, HN.out⟩)
              · simp only [sd, if_true]
                have cb : W1.cell? ⟨wa + 1, 1, none⟩ = some (.string (strOfNums r1)) := cell_at HST.out.cb 1
                have sz1 : (strOfNums r1).size ≤ 10000 := by rw [strOfNums_size]; have := HST.out.s1; simp at this; omega
                go_wp2_with fail
                go_region_with (go_at_call 17; refine (p_read_at (HST.out.drewN 1).line true 1 rfl nn x1 e1 rfl rfl).mono ?_; rintro e w3 ⟨sp, sc, rfl, hown, hp3, hk3⟩; have hcv := conv_own hown; have HN := Lib.hid ((HST.out.drewN 1).read1 _ hp3 hk3); have cb0 : w3.cell? ⟨wa + 1, 1, none⟩ = some (.string (strOfNums r1)) := cell_at (((HST.out.drewN 1).kept hk3).2.trans HST.out.cb) 1; have cb1 : w3.frozen? ⟨wa + 1, 1, none⟩ = false := frozen_of_row _ _ _ _ _ (((HST.out.drewN 1).kept hk3).2.trans HST.out.cb); have sz2 : (strOfNums (x1.take (count nn x1.length))).size ≤ 10000 := (by rw [strOfNums_size]; have := HST.out.s1; simp at this ⊢; omega); clear hown hp3 hk3)
                all_goals (go_wp2_with fail; go_meet; exact ⟨_, _, _, _, _, _, _, HN.out⟩)
            · have z1 : (kd == 1) = false := by simpa using k1
              by_cases k2 : kd = 2
              · subst k2
                cases j
                · simp only [sd, Bool.false_eq_true, if_false]
                  go_wp2_with fail
                  refine (p_hang HST.out.line true 0 rfl).mono ?_
                  rintro e w3 ⟨rfl, hp3, hk3⟩
                  have HN := Lib.hid (HST.out.hung hp3 hk3)
                  clear hp3 hk3 HST
                  go_wp2_with fail
                  go_meet
                  exact ⟨_, _, _, _, _, _, _, HN.out⟩
                · simp only [sd, if_true]
                  go_wp2_with fail
                  refine (p_hang HST.out.line false 1 rfl).mono ?_
                  rintro e w3 ⟨rfl, hp3, hk3⟩
                  have HN := Lib.hid (HST.out.hung hp3 hk3)
                  clear hp3 hk3 HST
                  go_wp2_with fail
                  go_meet
                  exact ⟨_, _, _, _, _, _, _, HN.out⟩
              · have z2 : (kd == 2) = false := by simpa using k2
                go_wp2_with fail
                go_meet
                exact ⟨_, _, _, _, _, _, _, HST.out.more⟩
        case rest =>
        clear HST HL HLN HBOX HLL2 hGV d0 d1 d2 d3 g0 g1 g2 g3
        obtain ⟨r0, r1, x0, x1, e0, e1, F, hst⟩ := hcut
        have HST := Lib.hid hst
        clear hst
        go_wp2_with fail
        go_loopg [91] 2 (fun g v91 wx => ((g = 2 ∧ v91 = .int .i64 0) ∨ (g = 1 ∧ v91 = .int .i64 1) ∨ (g = 0 ∧ v91 = .int .i64 2)) ∧ Hid (St w wx B p N wa (wa + 1) (i + 1) r0 r1 x0 x1 e0 e1 F))
        case atStart => exact ⟨.inl ⟨rfl, rfl⟩, HST⟩
        case round =>
          clear HST
          obtain ⟨hg, HST⟩ := hrel
          rcases hg with ⟨rfl, rfl⟩ | ⟨rfl, rfl⟩ | ⟨rfl, rfl⟩
          · have hs : St w wr B p N wa (wa + 1) (i + 1) r0 r1 x0 x1 e0 e1 F := HST.out
            obtain ⟨R, hR⟩ : ∃ R, strOfNums r0 = R := ⟨_, rfl⟩
            obtain ⟨S, hS⟩ : ∃ S, strOfNums (r0 ++ x0) = S := ⟨_, rfl⟩
            obtain ⟨m, hm⟩ : ∃ m, x0.length = m := ⟨_, rfl⟩
            obtain ⟨ra, hra⟩ : ∃ ra, R.size = ra := ⟨_, rfl⟩
            obtain ⟨sb, hsb⟩ : ∃ sb, S.size = sb := ⟨_, rfl⟩
            have ca : wr.cell? ⟨wa, 1, none⟩ = some (.string S) := by rw [← hS]; exact cell_at hs.ca 1
            have cb : wr.cell? ⟨wa + 1, 0, none⟩ = some (.string R) := by rw [← hR]; exact cell_at hs.cb 0
            have hab : sb = ra + m := by rw [← hsb, ← hra, ← hS, ← hR, strOfNums_size, strOfNums_size, List.length_append, hm]
            have hbb : ra + m ≤ 100000 := by have h := hs.s0; rw [List.length_append, hm] at h; have h2 : r0.length = ra := by rw [← hra, ← hR, strOfNums_size]
                                             omega
            have hpre : S.extract 0 ra = R := by rw [← hra, ← hS, ← hR]; exact begins r0 x0
            have e3 : IntKind.i64.wrap ((sb : Int) - (ra : Int)) = (m : Int) := by rw [IntWalk.i64_in _ (by omega)]; omega
            have hm0 : m = 0 → S = R := fun h => by rw [← hS, ← hR, List.eq_nil_of_length_eq_zero (hm.trans h), List.append_nil]
            have hle : ra ≤ sb := by omega
            have HM := Lib.hid hm
            have HM0 : Hid _ := hm0
            have HPL : Hid (IsP wr p F N ⟨x0, x1, e0, e1⟩) := hs.line
            clear hs hR hS hm hm0 hab hbb
            by_cases hov : (e0 && decide (x0.length = 0)) = true
            · have hmz : m = 0 := by have := HM.out; simp at hov; rw [hov.2] at this; simpa using this.symm
              obtain rfl := HM0.out hmz
              have hrs : ra = sb := hra.symm.trans hsb
              subst hrs
              clear hsb hle
              have HOV := Lib.hid hov
              clear hov HM0
              go_wp2_with fail
              go_quiet (first | (go_at_call 19; exact p_over_q HPL.out false 0 rfl true HOV.out _) | (go_at_call 21; exact p_waits_q HPL.out false 0 rfl m HM.out _))
              go_wp2_with fail
              go_roundg 1
              case measure => omega
              case rel => exact ⟨.inr (.inl ⟨rfl, rfl⟩), HST.out.drewN nq⟩
            · have hov' : (e0 && decide (x0.length = 0)) = false := by simpa using hov
              have HOV := Lib.hid hov'
              clear hov hov' HM0
              go_wp2_with fail
              go_quiet (first | (go_at_call 19; exact p_over_q HPL.out false 0 rfl false HOV.out _) | (go_at_call 21; exact p_waits_q HPL.out false 0 rfl m HM.out _))
              go_wp2_with fail
              go_roundg 1
              case measure => omega
              case rel => exact ⟨.inr (.inl ⟨rfl, rfl⟩), HST.out.drewN nq⟩
          · have hs : St w wr B p N wa (wa + 1) (i + 1) r0 r1 x0 x1 e0 e1 F := HST.out
            obtain ⟨R, hR⟩ : ∃ R, strOfNums r1 = R := ⟨_, rfl⟩
            obtain ⟨S, hS⟩ : ∃ S, strOfNums (r1 ++ x1) = S := ⟨_, rfl⟩
            obtain ⟨m, hm⟩ : ∃ m, x1.length = m := ⟨_, rfl⟩
            obtain ⟨ra, hra⟩ : ∃ ra, R.size = ra := ⟨_, rfl⟩
            obtain ⟨sb, hsb⟩ : ∃ sb, S.size = sb := ⟨_, rfl⟩
            have ca : wr.cell? ⟨wa, 0, none⟩ = some (.string S) := by rw [← hS]; exact cell_at hs.ca 0
            have cb : wr.cell? ⟨wa + 1, 1, none⟩ = some (.string R) := by rw [← hR]; exact cell_at hs.cb 1
            have hab : sb = ra + m := by rw [← hsb, ← hra, ← hS, ← hR, strOfNums_size, strOfNums_size, List.length_append, hm]
            have hbb : ra + m ≤ 100000 := by have h := hs.s1; rw [List.length_append, hm] at h; have h2 : r1.length = ra := by rw [← hra, ← hR, strOfNums_size]
                                             omega
            have hpre : S.extract 0 ra = R := by rw [← hra, ← hS, ← hR]; exact begins r1 x1
            have e3 : IntKind.i64.wrap ((sb : Int) - (ra : Int)) = (m : Int) := by rw [IntWalk.i64_in _ (by omega)]; omega
            have hm0 : m = 0 → S = R := fun h => by rw [← hS, ← hR, List.eq_nil_of_length_eq_zero (hm.trans h), List.append_nil]
            have hle : ra ≤ sb := by omega
            have HM := Lib.hid hm
            have HM0 : Hid _ := hm0
            have HPL : Hid (IsP wr p F N ⟨x0, x1, e0, e1⟩) := hs.line
            clear hs hR hS hm hm0 hab hbb
            by_cases hov : (e1 && decide (x1.length = 0)) = true
            · have hmz : m = 0 := by have := HM.out; simp at hov; rw [hov.2] at this; simpa using this.symm
              obtain rfl := HM0.out hmz
              have hrs : ra = sb := hra.symm.trans hsb
              subst hrs
              clear hsb hle
              have HOV := Lib.hid hov
              clear hov HM0
              go_wp2_with fail
              go_quiet (first | (go_at_call 19; exact p_over_q HPL.out true 1 rfl true HOV.out _) | (go_at_call 21; exact p_waits_q HPL.out true 1 rfl m HM.out _))
              go_wp2_with fail
              go_roundg 0
              case measure => omega
              case rel => exact ⟨.inr (.inr ⟨rfl, rfl⟩), HST.out.drewN nq⟩
            · have hov' : (e1 && decide (x1.length = 0)) = false := by simpa using hov
              have HOV := Lib.hid hov'
              clear hov hov' HM0
              go_wp2_with fail
              go_quiet (first | (go_at_call 19; exact p_over_q HPL.out true 1 rfl false HOV.out _) | (go_at_call 21; exact p_waits_q HPL.out true 1 rfl m HM.out _))
              go_wp2_with fail
              go_roundg 0
              case measure => omega
              case rel => exact ⟨.inr (.inr ⟨rfl, rfl⟩), HST.out.drewN nq⟩
          · go_wp2_with fail
            go_roundg (len1 - (i + 1))
            case measure => omega
            case rel => exact ⟨i + 1, by omega, by go_num, _, _, _, _, _, _, _, HST.out⟩
      · have hin : i = len1 := by omega
        subst hin
        go_wp2_with fail
        go_ret
        rw [hB]
        exact ⟨rfl, hst.fresh.1⟩
end Go.Proofs.YthpdphbppapkhaaDoor.ptyPrefix
