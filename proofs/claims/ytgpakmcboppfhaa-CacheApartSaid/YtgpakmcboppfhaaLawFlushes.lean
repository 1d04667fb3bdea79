/- CacheFlushes returns true: k flushes at any points. -/
import Derived.Test.YtgpakmcboppfhaaLawFlush
namespace Go.Proofs.Ytgpakmcboppfhaa
set_option linter.unusedVariables false
set_option linter.unusedSimpArgs false
open Go.RowKit

/-- The slice at a, in a block below N, holds the bytes l. -/
def ArgB (N : Nat) (w : World) (a : Option Addr) (l : List Int) : Prop :=
  l = [] ∨ ∃ b off, a = some ⟨b, off, none⟩ ∧ b < N ∧ ∀ i, i < l.length → w.cell? ⟨b, off + i, none⟩ = some (.int .u8 (l.getD i 0))
theorem ArgB.kept {N : Nat} {w w' : World} {a : Option Addr} {l : List Int} (h : ArgB N w a l) (hb : Below w.heap.size w w') : ArgB N w' a l := by
  rcases h with h | ⟨b, off, h1, h2, h3⟩
  · exact .inl h
  · exact .inr ⟨b, off, h1, h2, fun i hi => cell_kept hb (h3 i hi)⟩
theorem ArgB.at {N : Nat} {w : World} {a : Option Addr} {l : List Int} (h : ArgB N w a l) {i : Nat} (hi : i < l.length) : ∃ b off, a = some ⟨b, off, none⟩ ∧ w.cell? ⟨b, off + i, none⟩ = some (.int .u8 (l.getD i 0)) := by
  rcases h with rfl | ⟨b, off, h1, h2, h3⟩
  · simp at hi
  · exact ⟨b, off, h1, h3 i hi⟩
def InB (l : List Int) : Prop := ∀ x ∈ l, 0 ≤ x ∧ x ≤ 255
theorem InB.at {l : List Int} (h : InB l) {i : Nat} (hi : i < l.length) : 0 ≤ l.getD i 0 ∧ l.getD i 0 ≤ 255 := by
  rw [List.getD_eq_getElem?_getD, List.getElem?_eq_getElem hi]
  exact h _ (List.getElem_mem hi)

theorem flA_le (S : Int) (i : Nat) : ∀ (at' : List Int) (s : Nat × List (List Int)), (at'.foldl (flA S i) s).1 ≤ s.1 + at'.length
  | [], s => Nat.le_refl _
  | p :: at', s => by
    have := flA_le S i at' (flA S i s p)
    have h : (flA S i s p).1 ≤ s.1 + 1 := by unfold flA; split <;> simp
    simp only [List.foldl_cons, List.length_cons]; omega
theorem flRun_le (S W L : Int) (l at' : List Int) : ∀ i, (flRun S W L l at' i).1 ≤ i * at'.length ∧ (flRun S W L l at' i).2.1 ≤ i
  | 0 => by simp [flRun]
  | i + 1 => by
    obtain ⟨a, b⟩ := flRun_le S W L l at' i
    have := flA_le S i at' ((flRun S W L l at' i).1, (flRun S W L l at' i).2.2)
    have h2 := missA_le S W L ((flRun S W L l at' i).2.1, (at'.foldl (flA S i) ((flRun S W L l at' i).1, (flRun S W L l at' i).2.2)).2) (l.getD i 0)
    refine ⟨?_, ?_⟩
    · show (at'.foldl (flA S i) _).1 ≤ _
      rw [Nat.add_mul]; omega
    · show (missA S W L _ _).1 ≤ _
      omega

/-- flush_c with its post behind one name. -/
def Flushed (w : World) (pb : Nat) (S W L : Int) (F : Nat → Prop) (e : Ending) (w' : World) : Prop :=
  e = .returned (.tuple #[]) ∧ ∃ F', CacheAt w' pb S W L (emptyC S) F' ∧ Chg F w w' ∧ (∀ k, F' k → F k ∨ w.heap.size ≤ k)
theorem flush_n {w : World} {pb : Nat} {S W L : Int} {xss : List (List Int)} {F : Nat → Prop} (h : CacheAt w pb S W L xss F) (hv : validB S W L = true) :
    Calls Try.prog 22 #[.pointer (some ⟨pb, 0, none⟩)] w (Flushed w pb S W L F) := flush_c h hv

/-- Two caches with blocks of their own, above the law's box. -/
def Two (w wx : World) (S W W' L : Int) (x y : List (List Int)) (s7 s8 : Value) : Prop :=
  ∃ pa F pc G, s7 = .pointer (some ⟨pa, 0, none⟩) ∧ s8 = .pointer (some ⟨pc, 0, none⟩) ∧ CacheAt wx pa S W L x F ∧ CacheAt wx pc S W' L y G ∧ (∀ k, F k → ¬ G k) ∧ (∀ k, F k → w.heap.size < k) ∧ (∀ k, G k → w.heap.size < k)

theorem Two.mk1 {w wa wb : World} {S W W' L : Int} {x y : List (List Int)} {pa pc : Nat} {F G : Nat → Prop} (ha : CacheAt wa pa S W L x F) (hb : Below wa.heap.size wa wb) (hc : CacheAt wb pc S W' L y G) (hg : ∀ k, G k → wa.heap.size ≤ k)
    (hF : ∀ k, F k → w.heap.size < k) (hl : w.heap.size < wa.heap.size) : Two w wb S W W' L x y (.pointer (some ⟨pa, 0, none⟩)) (.pointer (some ⟨pc, 0, none⟩)) :=
  ⟨pa, F, pc, G, rfl, rfl, ha.below hb, hc, fun k h1 h2 => by have := ha.lt k h1; have := hg k h2; omega, hF, fun k hk => by have := hg k hk; omega⟩
theorem Two.mk2 {w wa wb : World} {S W W' L : Int} {x y : List (List Int)} {pa pc : Nat} {F G : Nat → Prop} (ha : CacheAt wa pa S W' L y F) (hb : Below wa.heap.size wa wb) (hc : CacheAt wb pc S W L x G) (hg : ∀ k, G k → wa.heap.size ≤ k)
    (hF : ∀ k, F k → w.heap.size < k) (hl : w.heap.size < wa.heap.size) : Two w wb S W W' L x y (.pointer (some ⟨pc, 0, none⟩)) (.pointer (some ⟨pa, 0, none⟩)) :=
  ⟨pc, G, pa, F, rfl, rfl, hc, ha.below hb, fun k h1 h2 => by have := ha.lt k h2; have := hg k h1; omega, fun k hk => by have := hg k hk; omega, hF⟩

/-- The law's box, and one cache above it. -/
def Y (w wx : World) (pc : Nat) (S W W' L : Int) (ys : List (List Int)) : Prop :=
  ∃ G, CacheAt wx pc S W' L ys G ∧ (∀ k, G k → w.heap.size < k) ∧
    (wx.cell? ⟨w.heap.size, 0, none⟩ = some (.int .i64 S) ∧ wx.cell? ⟨w.heap.size, 1, none⟩ = some (.int .i64 W) ∧ wx.cell? ⟨w.heap.size, 2, none⟩ = some (.int .i64 L) ∧ Below w.heap.size w wx)
def YDone (w : World) (pc : Nat) (S W W' L : Int) (ys : List (List Int)) (e0 e : Ending) (w' : World) : Prop := e = e0 ∧ Y w w' pc S W W' L ys

theorem Y.below {w wx : World} {pc : Nat} {S W W' L : Int} {ys : List (List Int)} (h : Y w wx pc S W W' L ys) : Below w.heap.size w wx := by
  obtain ⟨_, _, _, _, _, _, h⟩ := h; exact h

theorem Y.access {w wx : World} {pc : Nat} {S W W' L : Int} {ys : List (List Int)} (h : Y w wx pc S W W' L ys) (hv : validB S W' L = true) (a : Int) (ha : a ≤ 9223372036854775807) :
    Calls Try.prog 23 #[.pointer (some ⟨pc, 0, none⟩), .int .i64 a] wx (YDone w pc S W W' L (stepA S W' L ys a) (.returned (.bool (hitA S L ys a)))) := by
  obtain ⟨G, h1, h2, h3⟩ := h
  have hlt := World.block_lt_of_cell? wx _ h3.1
  simp only at hlt
  refine (access_any h1 hv a ha).mono ?_
  rintro e w' ⟨rfl, G', c, g, o⟩
  exact ⟨rfl, G', c, fun k hk => by rcases o k hk with o | o; exact h2 k o; omega, keepC g h2 h3⟩

theorem Y.flush {w wx : World} {pc : Nat} {S W W' L : Int} {ys : List (List Int)} (h : Y w wx pc S W W' L ys) (hv : validB S W' L = true) :
    Calls Try.prog 22 #[.pointer (some ⟨pc, 0, none⟩)] wx (YDone w pc S W W' L (emptyC S) (.returned (.tuple #[]))) := by
  obtain ⟨G, h1, h2, h3⟩ := h
  have hlt := World.block_lt_of_cell? wx _ h3.1
  simp only at hlt
  refine (flush_c h1 hv).mono ?_
  rintro e w' ⟨rfl, G', c, g, o⟩
  exact ⟨rfl, G', c, fun k hk => by rcases o k hk with o | o; exact h2 k o; omega, keepC g h2 h3⟩

set_option maxHeartbeats 4000000 in
theorem flushes_row (S W L : Int) (a1 : Option Addr) (c1 : Nat) (l1 : List Int) (a2 : Option Addr) (c2 : Nat) (l2 : List Int) (w : World)
    (r1 : ArgI w.heap.size w a1 l1) (y1 : l1.length * 8 ≤ 140737488351232) (i1 : InI l1) (r2 : ArgB w.heap.size w a2 l2) (y2 : l2.length * 1 ≤ 140737488351232) (i2 : InB l2) :
    Calls Try.prog 4 #[.agg #[.int .i64 S, .int .i64 W, .int .i64 L], .slice a1 l1.length c1, .slice a2 l2.length c2] w fun e w' => e = .returned (.bool true) ∧ Below w.heap.size w w' := by
  have HB := Lib.hid ((Below.refl w.heap.size w).alloc (Nat.le_refl _) (.cells #[.int .i64 S, .int .i64 W, .int .i64 L] 23))
  have start : ∀ W1, Below (w.alloc (.cells #[.int .i64 S, .int .i64 W, .int .i64 L] 23)).heap.size (w.alloc (.cells #[.int .i64 S, .int .i64 W, .int .i64 L] 23)) W1 →
      W1.cell? ⟨w.heap.size, 0, none⟩ = some (.int .i64 S) ∧ W1.cell? ⟨w.heap.size, 1, none⟩ = some (.int .i64 W) ∧ W1.cell? ⟨w.heap.size, 2, none⟩ = some (.int .i64 L) ∧ Below w.heap.size w W1 :=
    fun W1 hb => ⟨cell_kept hb (by simp), cell_kept hb (by simp), cell_kept hb (by simp), HB.out.trans (hb.mono (by simp))⟩
  have HST := Lib.hid start
  have R1 := Lib.hid r1
  have R2 := Lib.hid r2
  have I1 := Lib.hid i1
  have I2 := Lib.hid i2
  have HG1 := Lib.hid (fun (w' : World) (h : Below w.heap.size w w') => great_any a1 c1 l1 w' (R1.out.kept h) (by omega))
  clear start r1 r2 i1 i2
  go_enter Try.func4, Try.ntmps4
  go_wp2_with (first | (go_at_call 11; go_must (refine (awake_any _).mono ?_); rintro e w1 ⟨rfl, hb1⟩; obtain ⟨k0, k1, k2, b1⟩ := HST.out _ hb1; clear hb1))
  by_cases hv : validB S W L = true
  · have HMD := Lib.hid (fun w => made_yes (N := 0) S W L none 0 [] w hv (.inl rfl) (by simp) (by intro x hx; simp at hx))
    have HV := Lib.hid hv
    clear hv
    have hlt := World.block_lt_of_cell? w1 _ k0
    simp only at hlt
    go_cut [7, 8] (fun s7 s8 wx => Two w wx S W W L (emptyC S) (emptyC S) s7 s8 ∧ (wx.cell? ⟨w.heap.size, 0, none⟩ = some (.int .i64 S) ∧ wx.cell? ⟨w.heap.size, 1, none⟩ = some (.int .i64 W) ∧ wx.cell? ⟨w.heap.size, 2, none⟩ = some (.int .i64 L) ∧ Below w.heap.size w wx))
    case first =>
      have tok1 : True := trivial
      go_region_held3 (fun w' => w'.cell? ⟨w.heap.size, 0, none⟩ = some (.int .i64 S) ∧ w'.cell? ⟨w.heap.size, 1, none⟩ = some (.int .i64 W) ∧ w'.cell? ⟨w.heap.size, 2, none⟩ = some (.int .i64 L) ∧ Below w.heap.size w w')
        (first | exact ⟨k0, k1, k2, b1.drew⟩ | assumption | exact keep3 hb5 (by assumption) | exact keep3 hb4 (by assumption))
        (first | (go_at_call 19; have _t := tok1; refine (HMD.out _).mono ?_; rintro e w4 ⟨pa, F, rfl, hc4, hb4, hf4⟩; clear tok1 _t) | (go_at_call 19; refine (HMD.out _).mono ?_; rintro e w5 ⟨pc, G, rfl, hc5, hb5, hf5⟩))
      have ht := Two.mk1 (w := w) hc4 hb5 hc5 hf5 (fun k hk => by have := hf4 k hk; simp at this; omega) (by have := hb4.size; simp at this; omega)
      have hk := keep3 hb5 (keep3 hb4 ⟨k0, k1, k2, b1.drew⟩)
      have HT := Lib.hid ht
      have HK := Lib.hid hk
      clear ht hk hc4 hb4 hf4 hc5 hb5 hf5
      go_wp2_with fail
      go_meet
      exact ⟨HT.out, HK.out⟩
    case rest =>
      obtain ⟨⟨pa, F, pc, G, rfl, rfl, hx, hy, hd, hF, hG⟩, hk⟩ := hcut
      have HX := Lib.hid hx
      have HY := Lib.hid hy
      have HD := Lib.hid hd
      have HF := Lib.hid hF
      have HG := Lib.hid hG
      have HK := Lib.hid hk
      clear hx hy hd hF hG hk k0 k1 k2 b1 hlt HMD
      go_wp2_with fail
      refine (HG1.out _ HK.out.2.2.2).mono ?_
      rintro e w2 ⟨rfl, rfl⟩
      by_cases g1 : greatB l1 = true
      · go_wp2_with fail
        go_ret
        exact ⟨rfl, HK.out.2.2.2⟩
      have g1' : greatB l1 = false := Bool.eq_false_iff.2 g1
      clear g1
      by_cases h20 : 20 < (l2.length : Int)
      · go_wp2_with fail
        go_ret
        exact ⟨rfl, HK.out.2.2.2⟩
      have hl200 : (l1.length : Int) ≤ 200 := by
        have hq := g1'
        unfold greatB at hq
        rw [Bool.or_eq_false_iff] at hq
        have := of_decide_eq_false hq.2
        omega
      go_wp2_with fail
      refine (misses_any HX.out HV.out a1 c1 l1 (R1.out.kept HK.out.2.2.2) (fun k hk => by have := HF.out k hk; omega) (by omega) I1.out).mono ?_
      rintro e w5 ⟨rfl, F5, hc5, hg5, ho5⟩
      have hy5 : Y w w5 pc S W W L (emptyC S) := ⟨G, HY.out.kept hg5 (fun k h1 h2 => HD.out k h2 h1), HG.out, keepC hg5 HF.out HK.out⟩
      have HY5 := Lib.hid hy5
      clear hc5 hg5 ho5 hy5
      have hle1 := missC_le S W L (emptyC S) l1
      have HLAW := Lib.hid (flushes_law HV.out l1 l2)
      generalize (missC S W L (emptyC S) l1).1 = na at *
      clear HX HY HD HF HG HK
      go_wp2_with fail
      go_loopw [10, 11, 42] (fun s10 s11 s42 wr => ∃ i : Nat, i ≤ l1.length ∧ s42 = .int .i64 i ∧ s11 = .int .i64 ((flRun S W L l1 l2 i).1 : Int) ∧ s10 = .int .i64 ((flRun S W L l1 l2 i).2.1 : Int) ∧ Y w wr pc S W W L (flRun S W L l1 l2 i).2.2) (fun _ _ s42 _ => l1.length - (intOf s42).toNat)
      case atStart => exact ⟨0, Nat.zero_le _, rfl, rfl, rfl, HY5.out⟩
      case round =>
        obtain ⟨i, hi, rfl, rfl, rfl, hy⟩ := hrel
        have hfl := flRun_le S W L l1 l2 i
        have hfl2 : (flRun S W L l1 l2 i).1 ≤ 200 * 20 := Nat.le_trans hfl.1 (Nat.mul_le_mul (by omega) (by omega))
        have hfl3 := hfl.2
        have HY := Lib.hid hy
        clear hfl hy
        by_cases hlt : i < l1.length
        · have HSTEP := Lib.hid (show flRun S W L l1 l2 (i + 1) = ((l2.foldl (flA S i) ((flRun S W L l1 l2 i).1, (flRun S W L l1 l2 i).2.2)).1, missA S W L ((flRun S W L l1 l2 i).2.1, (l2.foldl (flA S i) ((flRun S W L l1 l2 i).1, (flRun S W L l1 l2 i).2.2)).2) (l1.getD i 0)) from rfl)
          obtain ⟨b, off, hb1, hx⟩ := (R1.out.kept HY.out.below).at hlt
          have hxr := I1.out.at hlt
          have hx1 := hxr.1
          have hx2 := hxr.2
          clear hxr
          generalize l1.getD i 0 = x at *
          generalize flRun S W L l1 l2 i = st at *
          obtain ⟨f, k, ys⟩ := st
          simp only at hfl2 hfl3 HSTEP HY
          subst hb1
          go_wp2_with fail
          go_loopw [11, 49] (fun s11 s49 wr2 => ∃ j : Nat, j ≤ l2.length ∧ s49 = .int .i64 j ∧ s11 = .int .i64 (((l2.take j).foldl (flA S i) (f, ys)).1 : Int) ∧ Y w wr2 pc S W W L ((l2.take j).foldl (flA S i) (f, ys)).2) (fun _ s49 _ => l2.length - (intOf s49).toNat)
          case atStart => exact ⟨0, Nat.zero_le _, rfl, rfl, HY.out⟩
          case round =>
            obtain ⟨j, hj, rfl, rfl, hy⟩ := hrel
            have HYJ := Lib.hid hy
            clear hy
            have hfj := flA_le S i (l2.take j) (f, ys)
            rw [List.length_take] at hfj
            simp only at hfj
            by_cases hjl : j < l2.length
            · obtain ⟨b', off', hb', hp⟩ := (R2.out.kept HYJ.out.below).at hjl
              have hpr := I2.out.at hjl
              have HS := Lib.hid (foldl_take_succ (flA S i) (f, ys) l2 0 j hjl)
              have hp1 := hpr.1
              have hp2 := hpr.2
              clear hpr
              generalize l2.getD j 0 = p at *
              generalize (l2.take j).foldl (flA S i) (f, ys) = r at *
              obtain ⟨f', ys'⟩ := r
              simp only at hfj HS HYJ
              subst hb'
              by_cases hpi : p = (i : Int)
              · have hpb : (p == (i : Int)) = true := beq_iff_eq.2 hpi
                have HS2 := Lib.hid (show flA S i (f', ys') p = (f' + 1, emptyC S) by unfold flA; rw [if_pos hpi])
                clear hpi
                go_wp2_with (first | (go_at_call 22; go_must (refine (HYJ.out.flush HV.out).mono ?_); rintro e w8 ⟨rfl, hy8⟩))
                go_roundw
                case rel => exact ⟨j + 1, by omega, by go_num, by rw [HS.out, HS2.out]; go_num, by rw [HS.out, HS2.out]; exact hy8⟩
                case measure => simp [intOf]; omega
              · have hpb : (p == (i : Int)) = false := beq_eq_false_iff_ne.2 hpi
                have HS2 := Lib.hid (show flA S i (f', ys') p = (f', ys') by unfold flA; rw [if_neg hpi])
                clear hpi
                go_wp2_with fail
                go_roundw
                case rel => exact ⟨j + 1, by omega, by go_num, by rw [HS.out, HS2.out], by rw [HS.out, HS2.out]; exact HYJ.out⟩
                case measure => simp [intOf]; omega
            · have hjn : j = l2.length := by omega
              have HJ := Lib.hid (show (l2.take j).foldl (flA S i) (f, ys) = l2.foldl (flA S i) (f, ys) by rw [hjn, List.take_length])
              clear hjn
              generalize (l2.take j).foldl (flA S i) (f, ys) = r at *
              obtain ⟨f', ys'⟩ := r
              simp only at hfj HYJ
              have HS2 := Lib.hid (show flRun S W L l1 l2 (i + 1) = (f', missA S W L (k, ys') x) by rw [HSTEP.out, ← HJ.out])
              clear HJ HSTEP
              by_cases h0 : 0 ≤ x
              · obtain ⟨hb, hhb⟩ : ∃ hb, hitA S L ys' x = hb := ⟨_, rfl⟩
                have hs2 : (missA S W L (k, ys') x) = ((if hb then k else k + 1), stepA S W L ys' x) := by
                  have hx0 : ¬ x < 0 := by omega
                  have hhb' := hhb
                  unfold hitA at hhb'
                  rw [if_neg hx0] at hhb'
                  simp only [missA, stepA, if_neg hx0, hhb']
                have HAC := Lib.hid (HYJ.out.access HV.out x hx2)
                rw [hhb] at HAC
                have HS3 := Lib.hid hs2
                clear hhb hs2
                cases hb
                all_goals
                  go_wp2_with (first | (go_at_call 23; go_must (refine HAC.out.mono ?_); rintro e w8 ⟨rfl, hy8⟩))
                  go_roundw
                  case rel => exact ⟨i + 1, by omega, by go_num, by rw [HS2.out], by rw [HS2.out, HS3.out]; first | rfl | go_num, by rw [HS2.out, HS3.out]; exact hy8⟩
                  case measure => simp [intOf]; omega
              · have HS3 := Lib.hid (show missA S W L (k, ys') x = (k, ys') by unfold missA; rw [if_pos (by omega)])
                have hd0 : decide (0 ≤ x) = false := decide_eq_false h0
                go_wp2_with fail
                go_roundw
                case rel => exact ⟨i + 1, by omega, by go_num, by rw [HS2.out], by rw [HS2.out, HS3.out], by rw [HS2.out, HS3.out]; exact HYJ.out⟩
                case measure => simp [intOf]; omega
        · have hin : i = l1.length := by omega
          have HIN := Lib.hid hin
          clear hin
          have hl := HLAW.out
          rw [← HIN.out] at hl
          obtain ⟨G, _, _, m0, m1, m2, bm⟩ := HY.out
          generalize flRun S W L l1 l2 i = st at *
          obtain ⟨f, k, ys⟩ := st
          simp only at hfl2 hfl3 hl HY
          obtain ⟨law1, law2⟩ := hl
          obtain ⟨s1, s2, w1', w2', _, _⟩ := validB_range HV.out
          obtain ⟨P, hP⟩ : ∃ P : Int, (f : Int) * S = P := ⟨_, rfl⟩
          obtain ⟨Q, hQ⟩ : ∃ Q : Int, P * W = Q := ⟨_, rfl⟩
          have hf4 : (f : Int) ≤ 4000 := by omega
          have hPb : 0 ≤ P ∧ P ≤ 256000 := by
            rw [← hP]
            refine ⟨Int.mul_nonneg (by omega) (by omega), ?_⟩
            have := Int.mul_le_mul hf4 s2 (by omega) (by omega)
            omega
          have hQb : 0 ≤ Q ∧ Q ≤ 2048000 := by
            rw [← hQ]
            refine ⟨Int.mul_nonneg hPb.1 (by omega), ?_⟩
            have := Int.mul_le_mul hPb.2 w2' (by omega) (by omega)
            omega
          obtain ⟨pb1, pb2⟩ := hPb
          obtain ⟨qb1, qb2⟩ := hQb
          have hm1 : wrap64 ((f : Int) * S) = P := by rw [hP]; unfold wrap64; omega
          have hm2 : wrap64 (P * W) = Q := by rw [hQ]; unfold wrap64; omega
          rw [hP, hQ] at law2
          clear hP hQ
          have hge : decide ((na : Int) ≤ (k : Int)) = true := decide_eq_true (by omega)
          go_wp2_with fail
          all_goals go_ret
          all_goals exact ⟨ret_bool (by simp), bm⟩
  · have HMD := Lib.hid (fun w => made_no S W L (.slice none 0 0) w (Bool.eq_false_iff.2 hv))
    clear hv
    go_region_held3 (fun w' => w'.cell? ⟨w.heap.size, 0, none⟩ = some (.int .i64 S) ∧ w'.cell? ⟨w.heap.size, 1, none⟩ = some (.int .i64 W) ∧ w'.cell? ⟨w.heap.size, 2, none⟩ = some (.int .i64 L) ∧ Below w.heap.size w w')
      (first | exact ⟨k0, k1, k2, b1.drew⟩ | assumption | exact keep3 ‹Below _ _ _› (by assumption))
      (first | (go_at_call 19; refine (HMD.out _).mono ?_; rintro e w1 ⟨rfl, hb1⟩))
    all_goals obtain ⟨_, _, _, bq⟩ := ‹_ ∧ _ ∧ _ ∧ Below w.heap.size w _›
    all_goals have BQ := Lib.hid bq
    all_goals clear bq
    all_goals
      go_wp2_with fail
      refine (HG1.out _ BQ.out).mono ?_
      rintro e w2 ⟨rfl, rfl⟩
      go_wp2_with fail
    all_goals go_ret
    all_goals exact ⟨rfl, BQ.out⟩

end Go.Proofs.Ytgpakmcboppfhaa
