/-
  The walk of QueueKinds. No condition.
-/
import Derived.Test.YthpdphbppapkhaaOpen
import Derived.Test.YthpdphbppapkhaaPutStr
import Derived.Deep.RegionHeld3
namespace Go.Proofs.Ythpdphbppapkhaa.queueKinds
open Go.RowKit

/-- The text that stands for a number. -/
def txt (x : Int) : ByteArray := strOfNums [x % 256, x / 256 % 256]

theorem conv_two (w : World) (x y : Int) : (convert 33 9 (.slice (some ⟨w.heap.size, 0, none⟩) 2 2)).run Try.prog (w.alloc (.cells #[.int .u8 x, .int .u8 y] 5)) = .ok (.string (strOfNums [x, y])) (w.alloc (.cells #[.int .u8 x, .int .u8 y] 5)) :=
  run_convert_bytes_arg (P := Try.prog) _ 33 5 Try.underlying33 Try.underlying5 w.heap.size 0 2 2 [x, y] rfl (fun i hi => by
    rw [Nat.zero_add, World.cell?_alloc_new]
    match i, hi with
    | 0, _ => rfl
    | 1, _ => rfl) 9 Try.underlying9

theorem text_any (x : Int) (w : World) :
    Calls Try.prog 13 #[.int .i64 x] w fun e w' => e = .returned (.string (txt x)) ∧ Below w.heap.size w w' := by
  have hc := conv_two w (x % 256) (x / 256 % 256)
  go_enter Try.func13, Try.ntmps13
  go_wp2
  go_ret
  exact ⟨rfl, (Below.refl _ _).alloc (Nat.le_refl _) _⟩

theorem toI {F : List Nat} {w w' : World} (h : qs.Keeps F w w') : qi.Keeps F w w' := ⟨h.os, h.tape, h.output, h.size, h.block⟩
theorem toS {F : List Nat} {w w' : World} (h : qi.Keeps F w w') : qs.Keeps F w w' := ⟨h.os, h.tape, h.output, h.size, h.block⟩

/-- Behind some acts: two queues that hold the same, apart, and nothing old has turned. -/
def Inv (w : World) (a b n : Nat) (wr : World) : Prop :=
  ∃ Fa Fb xs e, qi.IsQ wr a Fa xs n e ∧ qs.IsQ wr b Fb (xs.map txt) n e ∧ (∀ x, x ∈ Fa → w.heap.size ≤ x) ∧ (∀ x, x ∈ Fb → w.heap.size ≤ x) ∧ (∀ x, x ∈ Fa → x ∉ Fb) ∧ Below w.heap.size w wr

theorem own_keeps2 {w w' : World} {F : List Nat} {base : Nat} {E : TypeId} {v : Value} {n : Nat} {zs : List Value} (h : w.ownsRow base E 1 v n zs) (hk : qi.Keeps F w w') (hd : ∀ k, v.ownBlock = some k → k ∉ F) : w'.ownsRow base E 1 v n zs :=
  qi.own_keeps h hk hd

theorem own_capS {w : World} {base : Nat} {E : TypeId} {sp : Option Addr} {n sc : Nat} {zs : List Value} (h : w.ownsRow base E 1 (.slice sp n sc) n zs) : n ≤ sc ∧ sc ≤ maxLen := own_cap h

/-- A row of texts that one owns, handed to Put. -/
theorem given_str {w : World} {F : List Nat} {base : Nat} {sp : Option Addr} {n sc : Nat} {ll : List Int} (h : w.ownsRow base 9 1 (.slice sp n sc) n (ll.map fun x => .string (txt x))) (hl : ll.length = n) (hc : n ≤ sc ∧ sc ≤ maxLen)
    (hd : ∀ k, (Value.slice sp n sc).ownBlock = some k → k ∉ F) : qs.GivenIn w F sp n sc (ll.map txt) := by
  refine ⟨hc.1, hc.2, by simpa using hl, fun i hi => ?_⟩
  rcases h.2 with ⟨e, hz⟩ | ⟨g, cap, cur, e, _, hg, _⟩
  · omega
  · obtain ⟨rfl, rfl⟩ : sp = some ⟨g, 0, none⟩ ∧ sc = cap := by simpa using e
    have hcc := h.cells (g := g) rfl i (.string ((ll.map txt).getD i ByteArray.empty)) (by simp [List.getElem?_eq_getElem (show i < ll.length by omega)])
    rw [add_none] at hcc
    exact ⟨g, 0, rfl, (Array.getElem?_eq_some_iff.1 hg).1, hd g rfl, hcc⟩

theorem Inv.size {w wr : World} {a b n : Nat} (h : Inv w a b n wr) : w.heap.size ≤ wr.heap.size := by
  obtain ⟨Fa, Fb, xs, e, _, _, _, _, _, hb⟩ := h
  exact hb.size

theorem Inv.below {w wr wr' : World} {a b n : Nat} (h : Inv w a b n wr) (hb : Below wr.heap.size wr wr') : Inv w a b n wr' := by
  obtain ⟨Fa, Fb, xs, e, h1, h2, h3, h4, h5, h6⟩ := h
  exact ⟨Fa, Fb, xs, e, h1.below hb (Nat.le_refl _), h2.below hb (Nat.le_refl _), h3, h4, h5, h6.trans (hb.mono h6.size)⟩

theorem two_rows {w : World} {base base' : Nat} {sp sq : Option Addr} {c sc sd : Nat} {zs : List Int} (h : w.ownsRow base 3 1 (.slice sp c sc) c (zs.map fun x => .int .i64 x)) (h' : w.ownsRow base' 9 1 (.slice sq c sd) c ((zs.map txt).map fun x => .string x)) :
    ∀ i, i < c → ∃ b1 o1 b2 o2, sp = some ⟨b1, o1, none⟩ ∧ sq = some ⟨b2, o2, none⟩ ∧ b1 < w.heap.size ∧ b2 < w.heap.size ∧ w.cell? ⟨b1, o1 + i, none⟩ = some (.int .i64 (zs.getD i 0)) ∧ w.cell? ⟨b2, o2 + i, none⟩ = some (.string (txt (zs.getD i 0))) := by
  intro i hi
  have hl : zs.length = c := by have := h.1; simpa using this
  obtain ⟨b1, o1, e1, c1⟩ := (ints_of_own h).2 i hi
  rcases h'.2 with ⟨e, hz⟩ | ⟨g, cap, cur, e, _, hg, _⟩
  · omega
  · obtain ⟨rfl, rfl⟩ : sq = some ⟨g, 0, none⟩ ∧ sd = cap := by simpa using e
    have hcc := h'.cells (g := g) rfl i (.string (txt (zs.getD i 0))) (by simp [List.getElem?_eq_getElem (show i < zs.length by omega)])
    rw [add_none] at hcc
    exact ⟨b1, o1, g, 0, e1, rfl, World.block_lt_of_cell? w _ c1, (Array.getElem?_eq_some_iff.1 hg).1, c1, hcc⟩

/-- One act's row of texts. -/
def Row (W : World) (ll : List Int) (j : Nat) (v : Value) (wr : World) : Prop :=
  wr.ownsRow W.heap.size 9 1 v j ((ll.take j).map fun x => .string (txt x)) ∧ Below W.heap.size W wr

set_option maxRecDepth 100000 in
set_option maxHeartbeats 4000000 in
theorem walk (a0 : Int) (a1 : Option Addr) (len1 cap1 : Nat) (acts : List Act) (w : World) (_h0 : I64 a0) (h1 : IsActs w a1 len1 cap1 acts) :
    Calls Try.prog 3 #[.int .i64 a0, .slice a1 len1 cap1] w fun e w' => e = .returned (.bool true) ∧ Below w.heap.size w w' := by
  by_cases hg : isGreat acts = true
  · go_enter Try.func3, Try.ntmps3
    go_wp2_with fail
    refine (alive_any w).mono ?_
    rintro e w1 ⟨rfl, hb1⟩
    go_wp2_with fail
    refine (great_any a1 len1 cap1 acts w1 (h1.below hb1)).mono ?_
    rintro e w2 ⟨rfl, hb2⟩
    rw [hg]
    go_wp2_with fail
    refine (alive_any w2).mono ?_
    rintro e w3 ⟨rfl, hb3⟩
    go_wp2_with fail
    go_ret
    exact ⟨rfl, (hb1.trans (hb2.mono hb1.size)).trans (hb3.mono (Nat.le_trans hb1.size hb2.size))⟩
  · have hsmall : ∀ act, act ∈ acts → act.l.length ≤ 80 := by
      intro act hm
      rw [Bool.not_eq_true] at hg
      unfold isGreat at hg
      rw [Bool.or_eq_false_iff] at hg
      have := List.any_eq_false.1 hg.2 act hm
      simpa using this
    go_enter Try.func3, Try.ntmps3
    go_wp2_with fail
    refine (alive_any w).mono ?_
    rintro e w1 ⟨rfl, hb1⟩
    go_wp2_with fail
    refine (great_any a1 len1 cap1 acts w1 (h1.below hb1)).mono ?_
    rintro e w2 ⟨rfl, hb2⟩
    rw [Bool.not_eq_true] at hg
    rw [hg]
    have HSM : Hid _ := hsmall
    clear hsmall hg
    go_upto_region 3 with fail
    go_cut [5] (fun v5 w' => ∃ n : Nat, 1 ≤ n ∧ n ≤ 40 ∧ v5 = .int .i64 n ∧ w2 = w')
    case first =>
      go_wp2_with fail
      all_goals (go_meet; first | exact ⟨(1 + a0 % 40).toNat, by omega, by omega, congrArg (Value.int .i64) (by omega), rfl⟩ | exact ⟨1, by omega, by omega, rfl, rfl⟩)
    case rest =>
    obtain ⟨n, hn1, hn2, rfl, rfl⟩ := hcut
    go_wp2_with fail
    refine (qi.q_new n (by omega) (by omega) w2).mono ?_
    rintro e w3 ⟨a, rfl, hqa, hb3, hba, hba2⟩
    rw [Int.toNat_natCast] at hqa
    go_wp2_with fail
    refine (qs.q_new n (by omega) (by omega) w3).mono ?_
    rintro e w4 ⟨b, rfl, hqb, hb4, hbb, _⟩
    rw [Int.toNat_natCast] at hqb
    have hbel3 : Below w.heap.size w w3 := (hb1.trans (hb2.mono hb1.size)).trans (hb3.mono (Nat.le_trans hb1.size hb2.size))
    have hbel : Below w.heap.size w w4 := hbel3.trans (hb4.mono hbel3.size)
    have hinv : Inv w a b n w4 := ⟨[a], [b], [], false, hqa.below hb4 (Nat.le_refl _), hqb, fun x hx => by rcases List.mem_singleton.1 hx with rfl; exact Nat.le_trans (Nat.le_trans hb1.size hb2.size) hba,
      fun x hx => by rcases List.mem_singleton.1 hx with rfl; exact Nat.le_trans hbel3.size hbb, fun x hx hy => by rcases List.mem_singleton.1 hx with rfl; rcases List.mem_singleton.1 hy with rfl; omega, hbel⟩
    have HA : Hid (∀ i, i < len1 → ∃ b off act, a1 = some ⟨b, off, none⟩ ∧ b < w.heap.size ∧ acts[i]? = some act ∧ IsAct w b (off + i * 3) act) := h1.2.2.2
    have hcap : len1 ≤ cap1 := h1.1
    have hcm := h1.2.1
    unfold maxLen at hcm
    clear h1 hb1 hb2 hb3 hb4 hqa hqb hba hba2 hbb hbel hbel3
    go_wp2_with fail
    go_loopg [56] len1 (fun g v56 wr => ∃ i : Nat, i + g = len1 ∧ v56 = .int .i64 i ∧ Inv w a b n wr)
    case atStart => exact ⟨0, by omega, rfl, hinv⟩
    case round =>
      clear hinv
      obtain ⟨i, hi, rfl, Fa, Fb, xs, en, hqa, hqb, hFa, hFb, hab, hbel⟩ := hrel
      by_cases hlt : i < len1
      · obtain ⟨ab, ao, ⟨kd, nn, ll⟩, rfl, habt, hmem, la, ln, lc, c0, c1, c2, hl, _⟩ := HA.out i hlt
        have hll80 : ln ≤ 80 := by
          have := HSM.out _ (List.mem_of_getElem? hmem)
          have h2 := hl.2.2.1
          simp only at this h2
          omega
        have d0 := (hbel.cell (p := ⟨ab, ao + i * 3, none⟩) habt).trans c0
        have d1 := (hbel.cell (p := ⟨ab, ao + i * 3 + 1, none⟩) habt).trans c1
        have d2 := (hbel.cell (p := ⟨ab, ao + i * 3 + 2, none⟩) habt).trans c2
        have HL := Lib.hid hl
        have hnew : Below wr.heap.size wr (wr.alloc (.cells #[.int .i64 kd, .int .i64 nn, .slice la ln lc] 37)) := (Below.refl _ _).alloc (Nat.le_refl _) _
        have hbel1 : Below w.heap.size w (wr.alloc (.cells #[.int .i64 kd, .int .i64 nn, .slice la ln lc] 37)) := hbel.alloc hbel.size _
        have hqa1 := hqa.below hnew (Nat.le_refl _)
        have hqb1 := hqb.below hnew (Nat.le_refl _)
        have hsz : wr.heap.size < (wr.alloc (.cells #[.int .i64 kd, .int .i64 nn, .slice la ln lc] 37)).heap.size := by simp
        have HBA : Hid (wr.heap.size ∉ Fa) := fun hm => by have := hqa.lt _ hm; omega
        have HBB : Hid (wr.heap.size ∉ Fb) := fun hm => by have := hqb.lt _ hm; omega
        clear c0 c1 c2 hl hqa hqb hbel hmem hnew
        have hs1 := hbel1.size
        have HFA : Hid _ := hFa
        have HFB : Hid _ := hFb
        have HAB : Hid _ := hab
        clear hFa hFb hab
        · go_upto_region 12 with fail
          obtain ⟨W, hW⟩ : ∃ W, wr.alloc (.cells #[.int .i64 kd, .int .i64 nn, .slice la ln lc] 37) = W := ⟨_, rfl⟩
          have e0 : W.cell? ⟨wr.heap.size, 0, none⟩ = some (.int .i64 kd) := by rw [← hW]; simp
          have e1 : W.cell? ⟨wr.heap.size, 1, none⟩ = some (.int .i64 nn) := by rw [← hW]; simp
          have e2 : W.cell? ⟨wr.heap.size, 2, none⟩ = some (.slice la ln lc) := by rw [← hW]; simp
          rw [hW] at hbel1 hqa1 hqb1 hsz hs1 ⊢
          clear hW d0 d1 d2
          obtain ⟨B, hB⟩ : ∃ B, wr.heap.size = B := ⟨_, rfl⟩
          rw [hB] at e0 e1 e2 hsz HBA HBB ⊢
          clear hB
          by_cases k0 : kd = 0
          · subst k0
            obtain ⟨i0, hi0, hz0, hz1, hz2⟩ := info_parts qs.info
            go_wp2_with fail
            go_loopg [13, 67] ln (fun g v13 v67 wi => ∃ j : Nat, j + g = ln ∧ v67 = .int .i64 j ∧ Row W ll j v13 wi)
            case atStart => exact ⟨0, by omega, rfl, World.ownsRow_nil _ _ _ _, Below.refl _ _⟩
            case round =>
              obtain ⟨j, hj, rfl, hrow⟩ := hrel
              by_cases hjl : j < ln
              · obtain ⟨lb, lo, rfl, hlb, hlc, _⟩ := HL.out.2.2.2 j hjl
                have hlen : ll.length = ln := HL.out.2.2.1
                have hyc := (hrow.2.cell (p := ⟨lb, lo + j, none⟩) (Nat.lt_of_lt_of_le hlb hs1)).trans ((hbel1.cell (p := ⟨lb, lo + j, none⟩) hlb).trans hlc)
                have hnx : (ll.take (j + 1)).map (fun x => Value.string (txt x)) = (ll.take j).map (fun x => Value.string (txt x)) ++ [Value.string (txt (ll.getD j 0))] := by
                  rw [List.take_succ_eq_append_getElem (by omega), List.map_append]
                  simp [List.getElem?_eq_getElem (show j < ll.length by omega)]
                obtain ⟨y, hy⟩ : ∃ y, ll.getD j 0 = y := ⟨_, rfl⟩
                rw [hy] at hyc hnx
                obtain ⟨t, ht⟩ : ∃ t, txt y = t := ⟨_, rfl⟩
                have htx := text_any y wr
                rw [ht] at hnx htx
                have HNX := Lib.hid hnx
                have HTX : Hid _ := htx
                clear hnx hy htx ht hlc hlen
                obtain ⟨hown, hbw⟩ := hrow
                have hsw := hbw.size
                go_wp2_with fail
                refine Calls.mono HTX.out ?_
                rintro e w5 ⟨rfl, hb5⟩
                have hown5 := qs.own_below hown hb5 (Nat.le_refl _)
                have hbw5 := hbw.trans (hb5.mono hsw)
                have hsw5 := hbw5.size
                clear hown hbw hyc hsw
                go_wp2_with (at_builtin; refine wpList_append_own _ rfl _ _ 38 rfl W.heap.size 9 i0 (.string ByteArray.empty) 1 16 Try.underlying38 hi0 hz0 hz1 hz2 rfl (by decide) _ _ _ rfl (hown5.alloc _) ⟨w5.heap.size, 0, none⟩ 1 1 [.string t] rfl rfl (World.news_of_block (cs := #[.string t]) (t := 9) (fr := (0, 0)) (heap_alloc_new w5 _)) (by simp [Value.oneCell']) (by simp only [maxLen]; omega) (by omega) (by simp; omega) ?_; intro v' w6 hown6 hgrow _)
                go_roundg (ln - (j + 1))
                case measure => omega
                case rel =>
                  refine ⟨j + 1, by omega, by go_num, ?_, ?_⟩
                  · rw [HNX.out]; exact hown6
                  · exact (hbw5.alloc hsw5 _).grown hgrow (by simp; omega) (fun k hk => (hown5.lt k hk).1)
              · obtain rfl : j = ln := by omega
                obtain ⟨hown, hbw⟩ := hrow
                have hlen : ll.length = j := HL.out.2.2.1
                rw [List.take_of_length_le (by omega)] at hown
                obtain ⟨sp, sc, rfl⟩ := qs.own_form hown
                have hcapS := own_capS hown
                have m2 : wr.cell? ⟨B, 2, none⟩ = some (.slice la j lc) := (hbw.cell (p := ⟨B, 2, none⟩) hsz).trans e2
                have hbel5 := hbel1.trans (hbw.mono hs1)
                have hqa5 := hqa1.below hbw (Nat.le_refl _)
                have hqb5 := hqb1.below hbw (Nat.le_refl _)
                have hgv := HL.out.given hbel5 HFA.out
                obtain ⟨k, hk⟩ : ∃ k, qi.took j xs.length n en = k := ⟨_, rfl⟩
                have hk2 : qs.took j (xs.map txt).length n en = k := by rw [List.length_map]; exact hk
                have hzb : xs.map txt ++ (ll.map txt).take k = (xs ++ ll.take k).map txt := by simp
                have HK := Lib.hid hk
                have HK2 := Lib.hid hk2
                have HZB := Lib.hid hzb
                have HLEN := Lib.hid hlen
                have hFalt := hqa1.lt
                have hFblt := hqb1.lt
                have HFL : Hid _ := hFalt
                have HFBL : Hid _ := hFblt
                clear hk hk2 hzb hlen e0 e1 e2 hqa1 hqb1 hFalt hFblt hbel1
                go_wp2_with fail
                refine (qi.q_put_at hqa5 la j lc hgv k _ HK.out rfl).mono ?_
                rintro e w6 ⟨rfl, Fa6, hqa6, hka6, hsa6⟩
                have hqb6 := hqb5.keeps (toS hka6) (fun x hx hy => HAB.out x hy hx)
                have hbel6 := hka6.below hbel5 HFA.out hbel5.size
                have hown6 := own_keeps2 hown hka6 (fun x hx hm => by have := (hown.lt x hx).1; have := HFL.out x hm; omega)
                have hgb := given_str hown6 HLEN.out hcapS (fun x hx hm => by have := (hown.lt x hx).1; have := HFBL.out x hm; omega)
                have HSA : Hid _ := hsa6
                have HKA := Lib.hid hka6
                have HOWN := Lib.hid hown
                clear hsa6 hka6 hqa5 hqb5 hown m2 hgv
                go_wp2_with fail
                refine (qs.q_put_at hqb6 sp j sc hgb k _ HK2.out HZB.out).mono ?_
                rintro e w7 ⟨rfl, Fb7, hqb7, hkb7, hsb7⟩
                have hqa7 := hqa6.keeps (toI hkb7) (fun x hx hy => by
                  rcases HSA.out x hx with h | h
                  · exact HAB.out x h hy
                  · have h1 := HFBL.out x hy
                    have h2 := hbw.size
                    omega)
                have hbel7 := (toI hkb7).below hbel6 HFB.out hbel6.size
                have hab7 : ∀ x, x ∈ Fa6 → x ∉ Fb7 := fun x hx hy => by
                  rcases hsb7 x hy with h | h
                  · rcases HSA.out x hx with h' | h'
                    · exact HAB.out x h' h
                    · have h1 := HFBL.out x h
                      have h2 := hbw.size
                      omega
                  · have := hqa6.lt x hx
                    omega
                have hFa7 : ∀ x, x ∈ Fa6 → w.heap.size ≤ x := fun x hx => by
                  rcases HSA.out x hx with h | h
                  · exact HFA.out x h
                  · have := hbel5.size
                    omega
                have hFb7 : ∀ x, x ∈ Fb7 → w.heap.size ≤ x := fun x hx => by
                  rcases hsb7 x hx with h | h
                  · exact HFB.out x h
                  · have := hbel6.size
                    omega
                have HF1 : Hid _ := hab7
                have HF2 : Hid _ := hFa7
                have HF3 : Hid _ := hFb7
                clear hab7 hFa7 hFb7 hsb7 hkb7 hqb6 hqa6 hgb hown6
                go_wp2_with fail
                go_roundg (len1 - (i + 1))
                case measure => omega
                case rel => exact ⟨i + 1, by omega, by go_num, Fa6, Fb7, _, en, hqa7, hqb7, HF2.out, HF3.out, HF1.out, hbel7⟩
          · have z0 : (kd == 0) = false := by simpa using k0
            by_cases k1 : kd = 1
            · subst k1
              obtain ⟨c, hc⟩ : ∃ c, qi.count nn xs.length = c := ⟨_, rfl⟩
              have hc2 : qs.count nn (xs.map txt).length = c := by rw [List.length_map]; exact hc
              have hcx : c ≤ xs.length := hc ▸ qi.count_le _ _
              have htb : (xs.map txt).take c = (xs.take c).map txt := by simp
              have hdb : (xs.map txt).drop c = (xs.drop c).map txt := by simp
              have hcb : c ≤ 40 := by have := hqa1.room; omega
              have HC := Lib.hid hc
              have HC2 := Lib.hid hc2
              have HTB := Lib.hid htb
              have HDB := Lib.hid hdb
              have HCX := Lib.hid hcx
              have HFL : Hid _ := hqa1.lt
              have HFBL : Hid _ := hqb1.lt
              clear hc hc2 hcx htb hdb
              go_wp2_with fail
              clear e0 e2
              refine wp_region_noPanic ?_
              refine wp_region_held_drew (S := fun w' => w'.cell? ⟨B, 1, none⟩ = some (.int .i64 nn)) (by kernel_rfl) (e1) (fun hHeld => ?_)
              refine wpAnyH_take (i := 0) (oi := ⟨some 88, _, _, _, _, _⟩) (v := ?_) rfl (by kernel_rfl) (by kernel_rfl) (by kernel_rfl) (fun _ _ _ h => h) (Or.inl ⟨by rfl, ?_⟩) hHeld ?_
              rotate_left
              · intro w hSw; (try dsimp only at hSw); go_simp; try with_reducible rfl
              try simp only [Act.put, List.setIfInBounds_toArray, List.set_cons_zero, List.set_cons_succ]
              refine wpAnyH_take (i := 1) (oi := ⟨some 89, _, _, _, _, _⟩) (v := ?_) rfl (by kernel_rfl) (by kernel_rfl) (by kernel_rfl) (fun _ _ _ h => h) (Or.inl ⟨by rfl, ?_⟩) hHeld ?_
              rotate_left
              · intro w hSw; (try dsimp only at hSw); go_simp; try with_reducible rfl
              try simp only [Act.put, List.setIfInBounds_toArray, List.set_cons_zero, List.set_cons_succ]
              refine wpAnyH_take (i := 2) (oi := ⟨some 90, _, _, _, _, _⟩) (v := ?_) rfl (by kernel_rfl) (by kernel_rfl) (by kernel_rfl) (fun _ _ _ h => h) (Or.inl ⟨by rfl, ?_⟩) hHeld ?_
              rotate_left
              · intro w hSw; (try dsimp only at hSw); go_simp; try with_reducible rfl
              try simp only [Act.put, List.setIfInBounds_toArray, List.set_cons_zero, List.set_cons_succ]
              refine wpAnyH_take (i := 4) (oi := ⟨some 92, _, _, _, _, _⟩) (v := ?_) rfl (by kernel_rfl) (by kernel_rfl) (by kernel_rfl) (fun _ _ _ h => h) (Or.inl ⟨by rfl, ?_⟩) hHeld ?_
              rotate_left
              · intro w hSw; (try dsimp only at hSw); go_simp; try with_reducible rfl
              try simp only [Act.put, List.setIfInBounds_toArray, List.set_cons_zero, List.set_cons_succ]
              refine wpAnyH_take (i := 5) (oi := ⟨some 93, _, _, _, _, _⟩) (v := ?_) rfl (by kernel_rfl) (by kernel_rfl) (by kernel_rfl) (fun _ _ _ h => h) (Or.inl ⟨by rfl, ?_⟩) hHeld ?_
              rotate_left
              · intro w hSw; (try dsimp only at hSw); go_simp; try with_reducible rfl
              try simp only [Act.put, List.setIfInBounds_toArray, List.set_cons_zero, List.set_cons_succ]
              refine wpAnyH_take (i := 6) (oi := ⟨some 94, _, _, _, _, _⟩) (v := ?_) rfl (by kernel_rfl) (by kernel_rfl) (by kernel_rfl) (fun _ _ _ h => h) (Or.inl ⟨by rfl, ?_⟩) hHeld ?_
              rotate_left
              · intro w hSw; (try dsimp only at hSw); go_simp; try with_reducible rfl
              try simp only [Act.put, List.setIfInBounds_toArray, List.set_cons_zero, List.set_cons_succ]
              refine wpAnyH_ready (rs := [3]) (by kernel_rfl) (by simp) (AllReadyH.cons (o := ⟨some 91, _, _, _, _, _⟩) rfl (fun K hK => ?_) AllReadyH.nil)
              go_simp
              refine (qi.q_take_at (hqa1.same (w' := W.drew) (fun _ _ => rfl)) nn c _ _ HC.out rfl rfl).mono ?_; rintro e w5 ⟨sp, sc, rfl, hown, hqa5, hka⟩; have hqb5 := (hqb1.same (w' := W.drew) (fun _ _ => rfl)).keeps (toS hka) (fun x hx hy => HAB.out x hy hx); have m1 : w5.cell? ⟨B, 1, none⟩ = some (.int .i64 nn) := (World.cell?_of_block (a := ⟨B, 1, none⟩) (hka.block B hsz (HBA.out))).trans e1
              refine hK.out _ _ (m1) (fun hHeld => ?_)
              clear hK K
              try simp only [Act.put, List.setIfInBounds_toArray, List.set_cons_zero, List.set_cons_succ]
              refine wpAnyH_ready (rs := [7]) (by kernel_rfl) (by simp) (AllReadyH.cons (o := ⟨some 95, _, _, _, _, _⟩) rfl (fun K hK => ?_) AllReadyH.nil)
              go_simp
              refine (qs.q_take_at hqb5 nn c _ _ HC2.out HTB.out HDB.out).mono ?_; rintro e w6 ⟨sq, sd, rfl, hownb, hqb6, hkb⟩; have m2 : w6.cell? ⟨B, 1, none⟩ = some (.int .i64 nn) := (World.cell?_of_block (a := ⟨B, 1, none⟩) (hkb.block B (Nat.lt_of_lt_of_le hsz hka.size) (HBB.out))).trans m1
              refine hK.out _ _ (m2) (fun hHeld => ?_)
              clear hK K
              try simp only [Act.put, List.setIfInBounds_toArray, List.set_cons_zero, List.set_cons_succ]
              refine wpAnyH_take (i := 8) (oi := ⟨some 16, _, _, _, _, _⟩) (v := ?_) rfl (by kernel_rfl) (by kernel_rfl) (by kernel_rfl) (fun _ _ _ h => h) (Or.inl ⟨by rfl, ?_⟩) hHeld ?_
              rotate_left
              · intro w hSw; (try dsimp only at hSw); go_simp; try with_reducible rfl
              try simp only [Act.put, List.setIfInBounds_toArray, List.set_cons_zero, List.set_cons_succ]
              refine wpAnyH_take (i := 9) (oi := ⟨some 17, _, _, _, _, _⟩) (v := ?_) rfl (by kernel_rfl) (by kernel_rfl) (by kernel_rfl) (fun _ _ _ h => h) (Or.inl ⟨by rfl, ?_⟩) hHeld ?_
              rotate_left
              · intro w hSw; (try dsimp only at hSw); go_simp; try with_reducible rfl
              try simp only [Act.put, List.setIfInBounds_toArray, List.set_cons_zero, List.set_cons_succ]
              refine wpAnyH_done (by kernel_rfl) ?_ _
              refine NoPanic.normal ?_
              have hown6 := own_keeps2 hown (toI hkb) (fun x hx hm => by have h1 := (hown.lt x hx).1; have h2 := HFBL.out x hm; simp at h1; omega)
              have hqa6 := hqa5.keeps (toI hkb) HAB.out
              have hbel6 := (toI hkb).below (hka.below (hbel1.drew) HFA.out hs1) HFB.out (Nat.le_trans hs1 hka.size)
              have hcell : Hid (∀ i, i < c → ∃ b1 o1 b2 o2, sp = some ⟨b1, o1, none⟩ ∧ sq = some ⟨b2, o2, none⟩ ∧ b1 < w6.heap.size ∧ b2 < w6.heap.size ∧ w6.cell? ⟨b1, o1 + i, none⟩ = some (.int .i64 ((xs.take c).getD i 0)) ∧ w6.cell? ⟨b2, o2 + i, none⟩ = some (.string (txt ((xs.take c).getD i 0)))) := two_rows hown6 hownb
              have hcd : c ≤ sc := (own_cap hown6).1
              have hsd : c ≤ sd := (own_capS hownb).1
              have hqa7 : Inv w a b n w6 := ⟨Fa, Fb, xs.drop c, en, hqa6, hqb6, HFA.out, HFB.out, HAB.out, hbel6⟩
              clear hown hownb hown6 hqa5 hqa6 hqb5 hqb6 hbel6 hka hkb hbel1 hqa1 hqb1 hHeld m1 m2 e1 HFL HFBL
              have hs6 := hqa7.size
              go_wp2_with fail
              go_loopg [103] c (fun g v103 wi => ∃ j : Nat, j + g = c ∧ v103 = .int .i64 j ∧ Below w6.heap.size w6 wi)
              case atStart => exact ⟨0, by omega, rfl, Below.refl _ _⟩
              case round =>
                obtain ⟨j, hj, rfl, hbw⟩ := hrel
                by_cases hjc : j < c
                · obtain ⟨b1, o1, b2, o2, rfl, rfl, hl1, hl2, hx1, hx2⟩ := hcell.out j hjc
                  have n1 := (hbw.cell (p := ⟨b1, o1 + j, none⟩) hl1).trans hx1
                  have n2 := (hbw.cell (p := ⟨b2, o2 + j, none⟩) hl2).trans hx2
                  obtain ⟨y, hy⟩ : ∃ y, (xs.take c).getD j 0 = y := ⟨_, rfl⟩
                  rw [hy] at n1 n2
                  obtain ⟨t, ht⟩ : ∃ t, txt y = t := ⟨_, rfl⟩
                  have htx := text_any y wr.drew
                  rw [ht] at n2 htx
                  have HTX : Hid _ := htx
                  have hll1 : b1 < wr.heap.size := Nat.lt_of_lt_of_le hl1 hbw.size
                  have hll2 : b2 < wr.heap.size := Nat.lt_of_lt_of_le hl2 hbw.size
                  have hjz : (0 : Int) ≤ (j : Int) := Int.natCast_nonneg _
                  have hjz2 : (j : Int) < (c : Int) := by omega
                  have hss : (t.toList == t.toList) = true := by simp
                  clear hy htx ht hx1 hx2
                  go_wp2_with fail
                  refine wp_region_noPanic ?_
                  refine wp_region_held_drew (S := fun w' => w'.cell? ⟨b1, o1 + j, none⟩ = some (.int .i64 y) ∧ w'.cell? ⟨b2, o2 + j, none⟩ = some (.string t)) (by kernel_rfl) (⟨n1, n2⟩) (fun hHeld => ?_)
                  refine wpAnyH_take (i := 0) (oi := ⟨some 106, _, _, _, _, _⟩) (v := ?_) rfl (by kernel_rfl) (by kernel_rfl) (by kernel_rfl) (fun _ _ _ h => h) (Or.inl ⟨by rfl, ?_⟩) hHeld ?_
                  rotate_left
                  · intro w hSw; (try dsimp only at hSw); go_simp; try with_reducible rfl
                  try simp only [Act.put, List.setIfInBounds_toArray, List.set_cons_zero, List.set_cons_succ]
                  refine wpAnyH_take (i := 1) (oi := ⟨some 107, _, _, _, _, _⟩) (v := ?_) rfl (by kernel_rfl) (by kernel_rfl) (by kernel_rfl) (fun _ _ _ h => h) (Or.inl ⟨by rfl, ?_⟩) hHeld ?_
                  rotate_left
                  · intro w hSw; (try dsimp only at hSw); go_simp; try with_reducible rfl
                  try simp only [Act.put, List.setIfInBounds_toArray, List.set_cons_zero, List.set_cons_succ]
                  refine wpAnyH_take (i := 2) (oi := ⟨some 108, _, _, _, _, _⟩) (v := ?_) rfl (by kernel_rfl) (by kernel_rfl) (by kernel_rfl) (fun _ _ _ h => h) (Or.inl ⟨by rfl, ?_⟩) hHeld ?_
                  rotate_left
                  · intro w hSw; (try dsimp only at hSw); go_simp; try with_reducible rfl
                  try simp only [Act.put, List.setIfInBounds_toArray, List.set_cons_zero, List.set_cons_succ]
                  refine wpAnyH_take (i := 3) (oi := ⟨some 109, _, _, _, _, _⟩) (v := ?_) rfl (by kernel_rfl) (by kernel_rfl) (by kernel_rfl) (fun _ _ _ h => h) (Or.inl ⟨by rfl, ?_⟩) hHeld ?_
                  rotate_left
                  · intro w hSw; (try dsimp only at hSw); go_simp; try with_reducible rfl
                  try simp only [Act.put, List.setIfInBounds_toArray, List.set_cons_zero, List.set_cons_succ]
                  refine wpAnyH_take (i := 4) (oi := ⟨some 110, _, _, _, _, _⟩) (v := ?_) rfl (by kernel_rfl) (by kernel_rfl) (by kernel_rfl) (fun _ _ _ h => h) (Or.inl ⟨by rfl, ?_⟩) hHeld ?_
                  rotate_left
                  · intro w hSw; (try dsimp only at hSw); go_simp; try with_reducible rfl
                  try simp only [Act.put, List.setIfInBounds_toArray, List.set_cons_zero, List.set_cons_succ]
                  refine wpAnyH_take (i := 6) (oi := ⟨some 112, _, _, _, _, _⟩) (v := ?_) rfl (by kernel_rfl) (by kernel_rfl) (by kernel_rfl) (fun _ _ _ h => h) (Or.inl ⟨by rfl, ?_⟩) hHeld ?_
                  rotate_left
                  · intro w hSw; (try dsimp only at hSw); go_simp; try with_reducible rfl
                  try simp only [Act.put, List.setIfInBounds_toArray, List.set_cons_zero, List.set_cons_succ]
                  refine wpAnyH_take (i := 7) (oi := ⟨some 113, _, _, _, _, _⟩) (v := ?_) rfl (by kernel_rfl) (by kernel_rfl) (by kernel_rfl) (fun _ _ _ h => h) (Or.inl ⟨by rfl, ?_⟩) hHeld ?_
                  rotate_left
                  · intro w hSw; (try dsimp only at hSw); go_simp; try with_reducible rfl
                  try simp only [Act.put, List.setIfInBounds_toArray, List.set_cons_zero, List.set_cons_succ]
                  refine wpAnyH_take (i := 8) (oi := ⟨some 114, _, _, _, _, _⟩) (v := ?_) rfl (by kernel_rfl) (by kernel_rfl) (by kernel_rfl) (fun _ _ _ h => h) (Or.inl ⟨by rfl, ?_⟩) hHeld ?_
                  rotate_left
                  · intro w hSw; (try dsimp only at hSw); go_simp; try with_reducible rfl
                  try simp only [Act.put, List.setIfInBounds_toArray, List.set_cons_zero, List.set_cons_succ]
                  refine wpAnyH_take (i := 9) (oi := ⟨some 115, _, _, _, _, _⟩) (v := ?_) rfl (by kernel_rfl) (by kernel_rfl) (by kernel_rfl) (fun _ _ _ h => h) (Or.inl ⟨by rfl, ?_⟩) hHeld ?_
                  rotate_left
                  · intro w hSw; (try dsimp only at hSw); go_simp; try with_reducible rfl
                  try simp only [Act.put, List.setIfInBounds_toArray, List.set_cons_zero, List.set_cons_succ]
                  refine wpAnyH_ready (rs := [5]) (by kernel_rfl) (by simp) (AllReadyH.cons (o := ⟨some 111, _, _, _, _, _⟩) rfl (fun K hK => ?_) AllReadyH.nil)
                  go_simp
                  refine Calls.mono HTX.out ?_; rintro e w8 ⟨rfl, hb8⟩; have q1 : w8.cell? ⟨b1, o1 + j, none⟩ = some (.int .i64 y) := (hb8.cell (p := ⟨b1, o1 + j, none⟩) hll1).trans n1; have q2 : w8.cell? ⟨b2, o2 + j, none⟩ = some (.string t) := (hb8.cell (p := ⟨b2, o2 + j, none⟩) hll2).trans n2
                  refine hK.out _ _ (⟨q1, q2⟩) (fun hHeld => ?_)
                  clear hK K
                  try simp only [Act.put, List.setIfInBounds_toArray, List.set_cons_zero, List.set_cons_succ]
                  refine wpAnyH_take (i := 10) (oi := ⟨some 116, _, _, _, _, _⟩) (v := ?_) rfl (by kernel_rfl) (by kernel_rfl) (by kernel_rfl) (fun _ _ _ h => h) (Or.inl ⟨by rfl, ?_⟩) hHeld ?_
                  rotate_left
                  · intro w hSw; (try dsimp only at hSw); go_simp; try with_reducible rfl
                  try simp only [Act.put, List.setIfInBounds_toArray, List.set_cons_zero, List.set_cons_succ]
                  refine wpAnyH_done (by kernel_rfl) ?_ _
                  refine NoPanic.normal ?_
                  clear hHeld q1 q2 n1 n2
                  go_wp2_with fail
                  go_roundg (c - (j + 1))
                  case measure => omega
                  case rel => exact ⟨j + 1, by omega, by go_num, (hbw.drew).trans (hb8.mono hbw.size)⟩
                · clear hcell
                  go_wp2_with fail
                  go_roundg (len1 - (i + 1))
                  case measure => omega
                  case rel => exact ⟨i + 1, by omega, by go_num, hqa7.below hbw⟩
            · have z1 : (kd == 1) = false := by simpa using k1
              by_cases k3 : kd = 3
              · subst k3
                go_wp2_with fail
                refine (qi.q_end hqa1).mono ?_
                rintro e w5 ⟨rfl, hqa5, hk5⟩
                have hqb5 := hqb1.keeps (toS hk5) (fun x hx hy => HAB.out x hy hx)
                have hbel5 := hk5.below hbel1 HFA.out hs1
                go_wp2_with fail
                refine (qs.q_end hqb5).mono ?_
                rintro e w6 ⟨rfl, hqb6, hk6⟩
                have hqa6 := hqa5.keeps (toI hk6) HAB.out
                have hbel6 := (toI hk6).below hbel5 HFB.out hbel5.size
                go_wp2_with fail
                go_roundg (len1 - (i + 1))
                case measure => omega
                case rel => exact ⟨i + 1, by omega, by go_num, Fa, Fb, xs, true, hqa6, hqb6, HFA.out, HFB.out, HAB.out, hbel6⟩
              · have z3 : (kd == 3) = false := by simpa using k3
                go_wp2_with fail
                go_roundg (len1 - (i + 1))
                case measure => omega
                case rel => exact ⟨i + 1, by omega, by go_num, Fa, Fb, xs, en, hqa1, hqb1, HFA.out, HFB.out, HAB.out, hbel1⟩
      · clear HA HSM
        have hla : xs.length = (xs.map txt).length := by simp
        obtain ⟨m, hm⟩ : ∃ m, xs.length = m := ⟨_, rfl⟩
        have hm2 : (xs.map txt).length = m := by simpa using hm
        have HM := Lib.hid hm
        have HM2 := Lib.hid hm2
        clear hm hm2 hla hFa hFb hab
        obtain ⟨o, ho⟩ : ∃ o, (en && decide (m = 0)) = o := ⟨_, rfl⟩
        have ho1 : (en && decide (xs.length = 0)) = o := by rw [HM.out]; exact ho
        have ho2 : (en && decide ((xs.map txt).length = 0)) = o := by rw [HM2.out]; exact ho
        have HO1 := Lib.hid ho1
        have HO2 := Lib.hid ho2
        clear ho ho1 ho2
        go_wp2_with fail
        refine (qi.q_len_at hqa m HM.out).mono ?_
        rintro e w5 ⟨rfl, rfl⟩
        go_wp2_with fail
        refine (qs.q_len_at hqb m HM2.out).mono ?_
        rintro e w5 ⟨rfl, rfl⟩
        go_wp2_with fail
        refine (qi.q_over_at hqa o HO1.out).mono ?_
        rintro e w5 ⟨rfl, rfl⟩
        go_wp2_with fail
        refine (qs.q_over_at hqb o HO2.out).mono ?_
        rintro e w5 ⟨rfl, rfl⟩
        go_wp2_with fail
        go_ret
        exact ⟨ret_bool (by cases o <;> rfl), hbel⟩

end Go.Proofs.Ythpdphbppapkhaa.queueKinds
