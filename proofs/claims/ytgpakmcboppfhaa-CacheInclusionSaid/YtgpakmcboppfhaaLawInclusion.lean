/- CacheInclusion returns true: a cache with more ways hits whenever one with fewer ways does. -/
import Derived.Test.YtgpakmcboppfhaaLawFlushes
import Derived.Test.YtgpakmcboppfhaaS
namespace Go.Proofs.Ytgpakmcboppfhaa
set_option linter.unusedVariables false
set_option linter.unusedSimpArgs false
open Go.RowKit

/-- made, whatever the geometry. -/
theorem made_some (S W L : Int) (w : World) : Calls Try.prog 19 #[.agg #[.int .i64 S, .int .i64 W, .int .i64 L], .slice none 0 0] w fun e w' => ∃ p, e = .returned (.pointer p) ∧ Below w.heap.size w w' := by
  by_cases hv : validB S W L = true
  · refine (made_yes (N := 0) S W L none 0 [] w hv (.inl rfl) (by simp) (by intro x hx; simp at hx)).mono ?_
    rintro e w' ⟨pb, F, rfl, _, hb, _⟩
    exact ⟨_, rfl, hb⟩
  · refine (made_no S W L (.slice none 0 0) w (Bool.eq_false_iff.2 hv)).mono ?_
    rintro e w' ⟨rfl, hb⟩
    exact ⟨_, rfl, hb⟩

/-- Two caches with blocks of their own, above block w.heap.size. -/
def TwoAt (w wx : World) (pa pc : Nat) (S W W' L : Int) (x y : List (List Int)) : Prop :=
  ∃ F G, CacheAt wx pa S W L x F ∧ CacheAt wx pc S W' L y G ∧ (∀ k, F k → ¬ G k) ∧ (∀ k, F k → w.heap.size ≤ k) ∧ (∀ k, G k → w.heap.size ≤ k) ∧ Below w.heap.size w wx
def TwoDone (w : World) (pa pc : Nat) (S W W' L : Int) (x y : List (List Int)) (e0 e : Ending) (w' : World) : Prop := e = e0 ∧ TwoAt w w' pa pc S W W' L x y

section
variable {w wx : World} {pa pc : Nat} {S W W' L : Int} {x y : List (List Int)}
theorem TwoAt.swap (h : TwoAt w wx pa pc S W W' L x y) : TwoAt w wx pc pa S W' W L y x := by
  obtain ⟨F, G, h1, h2, h3, h4, h5, h6⟩ := h
  exact ⟨G, F, h2, h1, fun k a b => h3 k b a, h5, h4, h6⟩
theorem TwoAt.bel (h : TwoAt w wx pa pc S W W' L x y) : Below w.heap.size w wx := by
  obtain ⟨_, _, _, _, _, _, _, h⟩ := h; exact h
theorem TwoAt.accX (h : TwoAt w wx pa pc S W W' L x y) (hv : validB S W L = true) (a : Int) (ha : a ≤ 9223372036854775807) :
    Calls Try.prog 23 #[.pointer (some ⟨pa, 0, none⟩), .int .i64 a] wx (TwoDone w pa pc S W W' L (stepA S W L x a) y (.returned (.bool (hitA S L x a)))) := by
  obtain ⟨F, G, h1, h2, h3, h4, h5, h6⟩ := h
  refine (access_any h1 hv a ha).mono ?_
  rintro e w' ⟨rfl, F', c, g, o⟩
  refine ⟨rfl, F', G, c, h2.kept g (fun k a b => h3 k b a), fun k a b => ?_, fun k hk => ?_, h5, g.toBelow h6 h4⟩
  · rcases o k a with o | o
    · exact h3 k o b
    · have := h2.lt k b; omega
  · rcases o k hk with o | o
    · exact h4 k o
    · exact Nat.le_trans h6.size o
theorem TwoAt.accY (h : TwoAt w wx pa pc S W W' L x y) (hv : validB S W' L = true) (a : Int) (ha : a ≤ 9223372036854775807) :
    Calls Try.prog 23 #[.pointer (some ⟨pc, 0, none⟩), .int .i64 a] wx (TwoDone w pa pc S W W' L x (stepA S W' L y a) (.returned (.bool (hitA S L y a)))) := by
  refine (h.swap.accX hv a ha).mono ?_
  rintro e w' ⟨rfl, h⟩
  exact ⟨rfl, h.swap⟩
end

theorem keep6 {w W w1 : World} {a0 a1 a2 a3 a4 a5 : Addr} {v0 v1 v2 v3 v4 v5 : Value} (hb : Below W.heap.size W w1)
    (h : W.cell? a0 = some v0 ∧ W.cell? a1 = some v1 ∧ W.cell? a2 = some v2 ∧ W.cell? a3 = some v3 ∧ W.cell? a4 = some v4 ∧ W.cell? a5 = some v5 ∧ Below w.heap.size w W) :
    w1.cell? a0 = some v0 ∧ w1.cell? a1 = some v1 ∧ w1.cell? a2 = some v2 ∧ w1.cell? a3 = some v3 ∧ w1.cell? a4 = some v4 ∧ w1.cell? a5 = some v5 ∧ Below w.heap.size w w1 := by
  obtain ⟨h0, h1, h2, h3, h4, h5, h6⟩ := h
  exact ⟨cell_kept hb h0, cell_kept hb h1, cell_kept hb h2, cell_kept hb h3, cell_kept hb h4, cell_kept hb h5, h6.trans (hb.mono h6.size)⟩

theorem TwoAt.mk {w wa wb : World} {S W W' L : Int} {x y : List (List Int)} {pa pc : Nat} {F G : Nat → Prop} (ha : CacheAt wa pa S W L x F) (hb : Below wa.heap.size wa wb) (hc : CacheAt wb pc S W' L y G) (hg : ∀ k, G k → wa.heap.size ≤ k)
    (hF : ∀ k, F k → w.heap.size ≤ k) (hbel : Below w.heap.size w wb) (hl : w.heap.size ≤ wa.heap.size) : TwoAt w wb pa pc S W W' L x y :=
  ⟨F, G, ha.below hb, hc, fun k h1 h2 => by have := ha.lt k h1; have := hg k h2; omega, hF, fun k hk => by have := hg k hk; omega, hbel⟩

set_option maxHeartbeats 4000000 in
theorem inclusion_row (S W L : Int) (more : Int) (a1 : Option Addr) (c1 : Nat) (l1 : List Int) (w : World) (im : 0 ≤ more ∧ more ≤ 255)
    (r1 : ArgI w.heap.size w a1 l1) (y1 : l1.length * 8 ≤ 140737488351232) (i1 : InI l1) :
    Calls Try.prog 5 #[.agg #[.int .i64 S, .int .i64 W, .int .i64 L], .int .u8 more, .slice a1 l1.length c1] w fun e w' => e = .returned (.bool true) ∧ Below w.heap.size w w' := by
  have HB := Lib.hid ((Below.refl w.heap.size w).alloc (Nat.le_refl _) (.cells #[.int .i64 S, .int .i64 W, .int .i64 L] 23))
  have start : ∀ W1, Below (w.alloc (.cells #[.int .i64 S, .int .i64 W, .int .i64 L] 23)).heap.size (w.alloc (.cells #[.int .i64 S, .int .i64 W, .int .i64 L] 23)) W1 →
      W1.cell? ⟨w.heap.size, 0, none⟩ = some (.int .i64 S) ∧ W1.cell? ⟨w.heap.size, 1, none⟩ = some (.int .i64 W) ∧ W1.cell? ⟨w.heap.size, 2, none⟩ = some (.int .i64 L) ∧ Below w.heap.size w W1 :=
    fun W1 hb => ⟨cell_kept hb (by simp), cell_kept hb (by simp), cell_kept hb (by simp), HB.out.trans (hb.mono (by simp))⟩
  have HST := Lib.hid start
  have R1 := Lib.hid r1
  have I1 := Lib.hid i1
  have HG1 := Lib.hid (fun (w' : World) (h : Below w.heap.size w w') => great_any a1 c1 l1 w' (R1.out.kept h) (by omega))
  obtain ⟨m0, m1⟩ := im
  clear start r1 i1
  go_enter Try.func5, Try.ntmps5
  go_wp2_with (first | (go_at_call 11; go_must (refine (awake_any _).mono ?_); rintro e w1 ⟨rfl, hb1⟩; obtain ⟨k0, k1, k2, b1⟩ := HST.out _ hb1; clear hb1))
  obtain ⟨j0, j1, j2, bd⟩ := keep3 ((Below.refl w1.heap.size w1).alloc (Nat.le_refl _) (.cells #[.int .i64 S, .int .i64 (wrap64 (W + more % 8)), .int .i64 L] 23)) ⟨k0, k1, k2, b1⟩
  have j3 : (w1.alloc (.cells #[.int .i64 S, .int .i64 (wrap64 (W + more % 8)), .int .i64 L] 23)).cell? ⟨w1.heap.size, 0, none⟩ = some (.int .i64 S) := by simp
  have j4 : (w1.alloc (.cells #[.int .i64 S, .int .i64 (wrap64 (W + more % 8)), .int .i64 L] 23)).cell? ⟨w1.heap.size, 1, none⟩ = some (.int .i64 (wrap64 (W + more % 8))) := by simp
  have j5 : (w1.alloc (.cells #[.int .i64 S, .int .i64 (wrap64 (W + more % 8)), .int .i64 L] 23)).cell? ⟨w1.heap.size, 2, none⟩ = some (.int .i64 L) := by simp
  clear k0 k1 k2 b1 HST
  obtain ⟨W', hW'⟩ : ∃ W', wrap64 (W + more % 8) = W' := ⟨_, rfl⟩
  have HW' := Lib.hid hW'
  rw [hW'] at j0 j1 j2 j3 j4 j5 bd
  rw [hW']
  clear hW'
  generalize w1.alloc (.cells #[.int .i64 S, .int .i64 W', .int .i64 L] 23) = wd at *
  generalize w1.heap.size = db at *
  by_cases hv : validB S W L = true
  · by_cases hv' : validB S W' L = true
    · have HMX := Lib.hid (fun w => made_yes (N := 0) S W L none 0 [] w hv (.inl rfl) (by simp) (by intro x hx; simp at hx))
      have HMY := Lib.hid (fun w => made_yes (N := 0) S W' L none 0 [] w hv' (.inl rfl) (by simp) (by intro x hx; simp at hx))
      have HV := Lib.hid hv
      have HV' := Lib.hid hv'
      have hWW : W ≤ W' := by
        obtain ⟨_, _, q1, q2, _⟩ := validB_range hv
        have hq := HW'.out
        unfold wrap64 at hq
        omega
      have HWW := Lib.hid hWW
      clear hv hv' hWW
      have tok1 : True := trivial
      go_region_held3 (fun w' => w'.cell? ⟨w.heap.size, 0, none⟩ = some (.int .i64 S) ∧ w'.cell? ⟨w.heap.size, 1, none⟩ = some (.int .i64 W) ∧ w'.cell? ⟨w.heap.size, 2, none⟩ = some (.int .i64 L) ∧ w'.cell? ⟨db, 0, none⟩ = some (.int .i64 S) ∧ w'.cell? ⟨db, 1, none⟩ = some (.int .i64 W') ∧ w'.cell? ⟨db, 2, none⟩ = some (.int .i64 L) ∧ Below w.heap.size w w')
        (first | exact ⟨j0, j1, j2, j3, j4, j5, bd.drew⟩ | assumption | exact keep6 hb5 (by assumption) | exact keep6 hb4 (by assumption))
        (first | (go_at_call 19; have _t := tok1; refine (HMX.out _).mono ?_; rintro e w4 ⟨pa, F, rfl, hc4, hb4, hf4⟩; clear tok1 _t) | (go_at_call 19; refine (HMY.out _).mono ?_; rintro e w5 ⟨pc, G, rfl, hc5, hb5, hf5⟩))
      have hb45 := bd.drew.trans (hb4.mono bd.size)
      have ht := TwoAt.mk (w := w) hc4 hb5 hc5 hf5 (fun k hk => by have := hf4 k hk; have := bd.size; simp at *; omega) (hb45.trans (hb5.mono hb45.size)) hb45.size
      have HT := Lib.hid ht
      clear hc4 hb4 hf4 hc5 hb5 hf5 hb45 ht j0 j1 j2 j3 j4 j5 bd
      go_wp2_with fail
      refine (HG1.out _ HT.out.bel).mono ?_
      rintro e w2 ⟨rfl, rfl⟩
      by_cases g1 : greatB l1 = true
      · go_wp2_with fail
        go_ret
        exact ⟨rfl, HT.out.bel⟩
      have g1' : greatB l1 = false := Bool.eq_false_iff.2 g1
      clear g1
      have HNG := Lib.hid (not_great g1')
      have hl200 : (l1.length : Int) ≤ 200 := by have := HNG.out.2; omega
      go_wp2_with fail
      go_loopw [44] (fun s44 wr => ∃ i : Nat, i ≤ l1.length ∧ s44 = .int .i64 i ∧ TwoAt w wr pa pc S W W' L (runC S W L (emptyC S) (l1.take i)) (runC S W' L (emptyC S) (l1.take i))) (fun s44 _ => l1.length - (intOf s44).toNat)
      case atStart => exact ⟨0, Nat.zero_le _, rfl, HT.out⟩
      case round =>
        obtain ⟨i, hi, rfl, hr⟩ := hrel
        have HR := Lib.hid hr
        clear hr
        have HIN := Lib.hid (incl_run HV.out HV'.out HWW.out (l1.take i) (incl_empty W.toNat S) (empty_count HV.out))
        have HCX := Lib.hid (show ((runC S W L (emptyC S) (l1.take i)).length : Int) = S by rw [runC_count]; exact empty_count HV.out)
        by_cases hlt : i < l1.length
        · obtain ⟨b, off, hb1, hx⟩ := (R1.out.kept HR.out.bel).at hlt
          have hxr := I1.out.at hlt
          have hx1 := hxr.1
          have hx2 := hxr.2
          clear hxr
          have HSX := Lib.hid (show runC S W L (emptyC S) (l1.take (i + 1)) = stepA S W L (runC S W L (emptyC S) (l1.take i)) (l1.getD i 0) from foldl_take_succ (stepA S W L) (emptyC S) l1 0 i hlt)
          have HSY := Lib.hid (show runC S W' L (emptyC S) (l1.take (i + 1)) = stepA S W' L (runC S W' L (emptyC S) (l1.take i)) (l1.getD i 0) from foldl_take_succ (stepA S W' L) (emptyC S) l1 0 i hlt)
          generalize l1.getD i 0 = x at *
          generalize runC S W L (emptyC S) (l1.take i) = X at *
          generalize runC S W' L (emptyC S) (l1.take i) = Y at *
          have hst := (incl_step HV.out HV'.out HWW.out HIN.out HCX.out x).2
          subst hb1
          go_wp2_with fail
          have a1 := HR.out.accX HV.out x hx2
          obtain ⟨bx, hbx⟩ : ∃ bx, hitA S L X x = bx := ⟨_, rfl⟩
          obtain ⟨by', hby⟩ : ∃ by', hitA S L Y x = by' := ⟨_, rfl⟩
          rw [hbx] at a1 hst
          rw [hby] at hst
          refine a1.mono ?_
          rintro e w8 ⟨rfl, h8⟩
          have a2 := h8.accY HV'.out x hx2
          rw [hby] at a2
          have HST2 := Lib.hid hst
          have A2 := Lib.hid a2
          clear a1 a2 hbx hby hst h8
          go_wp2_with fail
          refine A2.out.mono ?_
          rintro e w9 ⟨rfl, h9⟩
          have H9 := Lib.hid h9
          clear h9 A2
          cases bx
          · cases by'
            all_goals
              go_wp2_with fail
              go_roundw
              case rel => exact ⟨i + 1, by omega, by go_num, by rw [HSX.out, HSY.out]; exact H9.out⟩
              case measure => simp [intOf]; omega
          · have hby : by' = true := HST2.out rfl
            subst hby
            go_wp2_with fail
            go_roundw
            case rel => exact ⟨i + 1, by omega, by go_num, by rw [HSX.out, HSY.out]; exact H9.out⟩
            case measure => simp [intOf]; omega
        · have hin : i = l1.length := by omega
          rw [hin, List.take_length] at HR HIN HCX
          have HGX := Lib.hid (good_run (B := 100000) HV.out l1 (empty_count HV.out) (good_empty S 100000) HNG.out.1)
          have HGY := Lib.hid (good_run (B := 100000) HV'.out l1 (empty_count HV.out) (good_empty S 100000) HNG.out.1)
          have HSH := Lib.hid (runC_short (S := S) (W := W) (L := L) l1 (empty_short S W))
          generalize runC S W L (emptyC S) l1 = X at *
          generalize runC S W' L (emptyC S) l1 = Y at *
          obtain ⟨F', G', hcx, hcy, hd, hFw, hGw, hbw⟩ := HR.out
          have HCY := Lib.hid hcy
          have HBW := Lib.hid hbw
          have HLI := Lib.hid (lines_c hcx HV.out)
          have hXl : (X.length : Int) ≤ 64 := by have := HCX.out; have := (validB_range HV.out).2.1; omega
          clear hcx hcy hd hFw hGw hbw
          go_wp2_with fail
          refine HLI.out.mono ?_
          rintro e w8 ⟨ob, us, rfl, ht8, hb8, hf8⟩
          have HT8 := Lib.hid ht8
          have HY8 := Lib.hid (HCY.out.below hb8)
          have HB8 := Lib.hid (HBW.out.trans (hb8.mono HBW.out.size))
          clear ht8 hb8 hf8
          go_wp2_with fail
          go_loopw [63] (fun s63 wr2 => ∃ s : Nat, s ≤ X.length ∧ s63 = .int .i64 s ∧ TableAt wr2 ob us X ∧ CacheAt wr2 pc S W' L Y G' ∧ Below w.heap.size w wr2) (fun s63 _ => X.length - (intOf s63).toNat)
          case atStart => exact ⟨0, Nat.zero_le _, rfl, HT8.out, HY8.out, HB8.out⟩
          case round =>
            obtain ⟨wo, rfl⟩ : ∃ wo : World, wo = wr := ⟨_, rfl⟩
            obtain ⟨s, hs, rfl, ht, hy, hb⟩ := hrel
            have HTS := Lib.hid ht
            have HYS := Lib.hid hy
            have HBS := Lib.hid hb
            clear ht hy hb
            by_cases hsl : s < X.length
            · have HXS := Lib.hid (List.getElem?_eq_getElem hsl)
              generalize X[s] = xs at *
              obtain ⟨b, c, q1, q2, q3⟩ := HTS.out.nth HXS.out
              have HQ3 := Lib.hid q3
              have hxl : (xs.length : Int) ≤ 9223372036854775807 := by
                have h1 := HSH.out xs (List.mem_of_getElem? HXS.out)
                have h2 := (validB_range HV.out).2.2.2.1
                omega
              clear q1 q3
              go_wp2_with fail
              go_loopw [69] (fun s69 wr3 => ∃ j : Nat, j ≤ xs.length ∧ s69 = .int .i64 j ∧ TableAt wr3 ob us X ∧ CacheAt wr3 pc S W' L Y G' ∧ Below w.heap.size w wr3 ∧ ArgI wo.heap.size wr3 b xs) (fun s69 _ => xs.length - (intOf s69).toNat)
              case atStart => exact ⟨0, Nat.zero_le _, rfl, HTS.out, HYS.out, HBS.out, HQ3.out⟩
              case round =>
                obtain ⟨j, hj, rfl, ht, hy, hb, hq⟩ := hrel
                have HTJ := Lib.hid ht
                have HYJ := Lib.hid hy
                have HBJ := Lib.hid hb
                have HQJ := Lib.hid hq
                clear ht hy hb hq
                by_cases hjl : j < xs.length
                · obtain ⟨b', off', hb', hx'⟩ := HQJ.out.at hjl
                  have HK := Lib.hid (show xs[j]? = some (xs.getD j 0) by rw [List.getD_eq_getElem?_getD, List.getElem?_eq_getElem hjl]; rfl)
                  generalize xs.getD j 0 = k at *
                  obtain ⟨k1, k2, k3⟩ := incl_age HIN.out HGX.out HGY.out HXS.out HK.out
                  have HA := Lib.hid (k3 ▸ age_c HYJ.out HV'.out k k1 (by omega) : Calls Try.prog 25 #[.pointer (some ⟨pc, 0, none⟩), .int .i64 k] wr fun e w' => e = .returned (.int .i64 (j : Int)) ∧ Below wr.heap.size wr w')
                  have hne : ((j : Int) != (j : Int)) = false := by simp
                  clear k3
                  subst hb'
                  go_wp2_with (first | (go_at_call 25; go_must (refine HA.out.mono ?_); rintro e w10 ⟨rfl, hb10⟩))
                  go_roundw
                  case rel => exact ⟨j + 1, by omega, by go_num, HTJ.out.below hb10, HYJ.out.below hb10, HBJ.out.trans (hb10.mono HBJ.out.size), HQJ.out.kept hb10⟩
                  case measure => simp [intOf]; omega
                · go_wp2_with fail
                  go_roundw
                  case rel => exact ⟨s + 1, by omega, by go_num, HTJ.out, HYJ.out, HBJ.out⟩
                  case measure => simp [intOf]; omega
            · go_wp2_with fail
              go_ret
              exact ⟨rfl, HBS.out⟩
    · have HMX := Lib.hid (fun w => made_some S W L w)
      have HMY := Lib.hid (fun w => made_no S W' L (.slice none 0 0) w (Bool.eq_false_iff.2 hv'))
      clear hv hv'
      have tok1 : True := trivial
      go_region_held3 (fun w' => w'.cell? ⟨w.heap.size, 0, none⟩ = some (.int .i64 S) ∧ w'.cell? ⟨w.heap.size, 1, none⟩ = some (.int .i64 W) ∧ w'.cell? ⟨w.heap.size, 2, none⟩ = some (.int .i64 L) ∧ w'.cell? ⟨db, 0, none⟩ = some (.int .i64 S) ∧ w'.cell? ⟨db, 1, none⟩ = some (.int .i64 W') ∧ w'.cell? ⟨db, 2, none⟩ = some (.int .i64 L) ∧ Below w.heap.size w w')
        (first | exact ⟨j0, j1, j2, j3, j4, j5, bd.drew⟩ | assumption | exact keep6 hb5 (by assumption) | exact keep6 hb4 (by assumption))
        (first | (go_at_call 19; have _t := tok1; refine (HMX.out _).mono ?_; rintro e w4 ⟨p, rfl, hb4⟩; clear tok1 _t) | (go_at_call 19; refine (HMY.out _).mono ?_; rintro e w5 ⟨rfl, hb5⟩))
      have hb45 := bd.drew.trans (hb4.mono bd.size)
      have HT := Lib.hid (hb45.trans (hb5.mono hb45.size))
      clear hb45 hb4 hb5 j0 j1 j2 j3 j4 j5 bd
      go_wp2_with fail
      refine (HG1.out _ HT.out).mono ?_
      rintro e w2 ⟨rfl, rfl⟩
      by_cases g1 : greatB l1 = true
      · go_wp2_with fail
        go_ret
        exact ⟨rfl, HT.out⟩
      · have g1' : greatB l1 = false := Bool.eq_false_iff.2 g1
        clear g1
        cases p with
        | none =>
          go_wp2_with fail
          go_ret
          exact ⟨rfl, HT.out⟩
        | some a =>
          go_wp2_with fail
          go_ret
          exact ⟨rfl, HT.out⟩
  · have HMX := Lib.hid (fun w => made_no S W L (.slice none 0 0) w (Bool.eq_false_iff.2 hv))
    have HMY := Lib.hid (fun w => made_some S W' L w)
    clear hv
    have tok1 : True := trivial
    go_region_held3 (fun w' => w'.cell? ⟨w.heap.size, 0, none⟩ = some (.int .i64 S) ∧ w'.cell? ⟨w.heap.size, 1, none⟩ = some (.int .i64 W) ∧ w'.cell? ⟨w.heap.size, 2, none⟩ = some (.int .i64 L) ∧ w'.cell? ⟨db, 0, none⟩ = some (.int .i64 S) ∧ w'.cell? ⟨db, 1, none⟩ = some (.int .i64 W') ∧ w'.cell? ⟨db, 2, none⟩ = some (.int .i64 L) ∧ Below w.heap.size w w')
      (first | exact ⟨j0, j1, j2, j3, j4, j5, bd.drew⟩ | assumption | exact keep6 hb5 (by assumption) | exact keep6 hb4 (by assumption))
      (first | (go_at_call 19; have _t := tok1; refine (HMX.out _).mono ?_; rintro e w4 ⟨rfl, hb4⟩; clear tok1 _t) | (go_at_call 19; refine (HMY.out _).mono ?_; rintro e w5 ⟨p, rfl, hb5⟩))
    have hb45 := bd.drew.trans (hb4.mono bd.size)
    have HT := Lib.hid (hb45.trans (hb5.mono hb45.size))
    clear hb45 hb4 hb5 j0 j1 j2 j3 j4 j5 bd
    go_wp2_with fail
    refine (HG1.out _ HT.out).mono ?_
    rintro e w2 ⟨rfl, rfl⟩
    by_cases g1 : greatB l1 = true
    · go_wp2_with fail
      go_ret
      exact ⟨rfl, HT.out⟩
    · have g1' : greatB l1 = false := Bool.eq_false_iff.2 g1
      clear g1
      go_wp2_with fail
      go_ret
      exact ⟨rfl, HT.out⟩

end Go.Proofs.Ytgpakmcboppfhaa
