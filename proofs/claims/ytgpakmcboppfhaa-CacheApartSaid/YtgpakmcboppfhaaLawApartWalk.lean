/- CacheApart returns true: the walk. -/
import Derived.Test.YtgpakmcboppfhaaLawApart
namespace Go.Proofs.Ytgpakmcboppfhaa
set_option linter.unusedVariables false
set_option linter.unusedSimpArgs false
open Go.RowKit

set_option maxRecDepth 100000 in
set_option maxHeartbeats 40000000 in
theorem apart_row (S W L : Int) (a1 : Option Addr) (c1 : Nat) (l1 : List Int) (set : Int) (w : World)
    (r1 : ArgI w.heap.size w a1 l1) (y1 : l1.length * 8 ≤ 140737488351232) (i1 : InI l1) (il : -9223372036854775808 ≤ set ∧ set ≤ 9223372036854775807) :
    Calls Try.prog 10 #[.agg #[.int .i64 S, .int .i64 W, .int .i64 L], .slice a1 l1.length c1, .int .i64 set] w fun e w' => e = .returned (.bool true) ∧ Below w.heap.size w w' := by
  have HB := Lib.hid ((Below.refl w.heap.size w).alloc (Nat.le_refl _) (.cells #[.int .i64 S, .int .i64 W, .int .i64 L] 23))
  have start : ∀ W1, Below (w.alloc (.cells #[.int .i64 S, .int .i64 W, .int .i64 L] 23)).heap.size (w.alloc (.cells #[.int .i64 S, .int .i64 W, .int .i64 L] 23)) W1 →
      W1.cell? ⟨w.heap.size, 0, none⟩ = some (.int .i64 S) ∧ W1.cell? ⟨w.heap.size, 1, none⟩ = some (.int .i64 W) ∧ W1.cell? ⟨w.heap.size, 2, none⟩ = some (.int .i64 L) ∧ Below w.heap.size w W1 :=
    fun W1 hb => ⟨cell_kept hb (by simp), cell_kept hb (by simp), cell_kept hb (by simp), HB.out.trans (hb.mono (by simp))⟩
  have HST := Lib.hid start
  have R1 := Lib.hid r1
  have I1 := Lib.hid i1
  have HG1 := Lib.hid (fun (w' : World) (h : Below w.heap.size w w') => great_any a1 c1 l1 w' (R1.out.kept h) (by omega))
  obtain ⟨il1, il2⟩ := il
  clear start r1 i1
  go_enter Try.func10, Try.ntmps10
  go_wp2_with (first | (go_at_call 11; go_must (refine (awake_any _).mono ?_); rintro e w1 ⟨rfl, hb1⟩; obtain ⟨k0, k1, k2, b1⟩ := HST.out _ hb1; clear hb1))
  by_cases hv : validB S W L = true
  · have HMD1 := Lib.hid (fun (w' : World) (h : Below w.heap.size w w') => made_yes S W L a1 c1 l1 w' hv (R1.out.kept h) (by omega) I1.out)
    have HMD2 := Lib.hid (fun w => made_yes (N := 0) S W L none 0 [] w hv (.inl rfl) (by simp) (by intro x hx; simp at hx))
    have HV := Lib.hid hv
    clear hv
    have hlt := World.block_lt_of_cell? w1 _ k0
    simp only at hlt
    go_cut [7, 8] (fun s7 s8 wx => Two w wx S W W L (runC S W L (emptyC S) l1) (emptyC S) s7 s8 ∧ (wx.cell? ⟨w.heap.size, 0, none⟩ = some (.int .i64 S) ∧ wx.cell? ⟨w.heap.size, 1, none⟩ = some (.int .i64 W) ∧ wx.cell? ⟨w.heap.size, 2, none⟩ = some (.int .i64 L) ∧ Below w.heap.size w wx))
    case first =>
      have tok1 : True := trivial
      go_region_held3 (fun w' => w'.cell? ⟨w.heap.size, 0, none⟩ = some (.int .i64 S) ∧ w'.cell? ⟨w.heap.size, 1, none⟩ = some (.int .i64 W) ∧ w'.cell? ⟨w.heap.size, 2, none⟩ = some (.int .i64 L) ∧ Below w.heap.size w w')
        (first | exact ⟨k0, k1, k2, b1.drew⟩ | assumption | exact keep3 hb5 (by assumption) | exact keep3 hb4 (by assumption))
        (first | (go_at_call 19; have _t := tok1; refine (HMD1.out _ (by obtain ⟨_, _, _, hq⟩ := ‹_ ∧ _ ∧ _ ∧ Below w.heap.size w _›; exact hq)).mono ?_; rintro e w4 ⟨pa, F, rfl, hc4, hb4, hf4⟩; clear tok1 _t) | (go_at_call 19; refine (HMD2.out _).mono ?_; rintro e w5 ⟨pc, G, rfl, hc5, hb5, hf5⟩))
      have ht := Two.mk1 (w := w) hc4 hb5 hc5 hf5 (fun k hk => by have := hf4 k hk; simp at this; omega) (by have := hb4.size; simp at this; omega)
      have hk := keep3 hb5 (keep3 hb4 ⟨k0, k1, k2, b1.drew⟩)
      have HT := Lib.hid ht
      have HK := Lib.hid hk
      clear ht hk hc4 hb4 hf4 hc5 hb5 hf5
      go_wp2_with fail
      go_meet
      exact ⟨HT.out, HK.out⟩
    case rest =>
      obtain ⟨⟨pa, F, pc, G0, rfl, rfl, hx, hy, hd, hF, hG⟩, hk⟩ := hcut
      have HX := Lib.hid hx
      have HY := Lib.hid hy
      have HD := Lib.hid hd
      have HF := Lib.hid hF
      have HG := Lib.hid hG
      have HK := Lib.hid hk
      clear hx hy hd hF hG hk k0 k1 k2 b1 hlt HMD1 HMD2
      go_wp2_with fail
      refine (HG1.out _ HK.out.2.2.2).mono ?_
      rintro e w2 ⟨rfl, rfl⟩
      by_cases g1 : greatB l1 = true
      · go_wp2_with fail
        go_ret
        exact ⟨rfl, HK.out.2.2.2⟩
      have g1' : greatB l1 = false := Bool.eq_false_iff.2 g1
      clear g1
      have HNG := Lib.hid (not_great g1')
      have hl200 : (l1.length : Int) ≤ 200 := by have := HNG.out.2; omega
      have HCL := Lib.hid (clone_c HX.out HV.out)
      go_wp2_with fail
      refine HCL.out.mono ?_
      rintro e w5 ⟨pz, K, rfl, hc5, hb5, hf5⟩
      have hlt := World.block_lt_of_cell? _ _ HK.out.1
      simp only at hlt
      have HFK := Lib.hid (show ∀ k, K k → ¬ F k from fun k h1 h2 => by have := HX.out.lt k h2; have := hf5 k h1; omega)
      have htri : Tri w w5 S W L set (runC S W L (emptyC S) (l1.take 0)) (runC S W L (emptyC S) l1) (emptyC S) pa pc pz F G0 K :=
        ⟨HX.out.below hb5, HY.out.below hb5, hc5, fun k hk => ⟨fun hf => HD.out k hf hk, fun hf => by have := HY.out.lt k hk; have := hf5 k hf; omega, HG.out k hk⟩, empty_count HV.out, fun s hs => rfl⟩
      have HTR := Lib.hid htri
      have HK5 := Lib.hid (keep3 hb5 HK.out)
      clear hc5 hb5 hf5 htri HCL HK HD HG HX HY hlt
      obtain ⟨X, hX⟩ : ∃ X, runC S W L (emptyC S) l1 = X := ⟨_, rfl⟩
      have hXS : (X.length : Int) = S := by rw [← hX, runC_count]; exact empty_count HV.out
      have HX := Lib.hid hX
      have HSH := Lib.hid (show ∀ x ∈ X, x.length ≤ 8 from fun x hx => by
        rw [← hX] at hx
        have h1 := runC_short (S := S) (W := W) (L := L) l1 (empty_short S W) x hx
        have h2 := (validB_range HV.out).2.2.2.1
        omega)
      rw [hX] at HTR
      clear hX
      go_wp2_with fail
      go_loopw [39] (fun s39 wr => ∃ (i : Nat) (Y : List (List Int)) (G : Nat → Prop), i ≤ l1.length ∧ s39 = .int .i64 (i : Int) ∧ Tri w wr S W L set (runC S W L (emptyC S) (l1.take i)) X Y pa pc pz F G K ∧
        (wr.cell? ⟨w.heap.size, 0, none⟩ = some (.int .i64 S) ∧ wr.cell? ⟨w.heap.size, 1, none⟩ = some (.int .i64 W) ∧ wr.cell? ⟨w.heap.size, 2, none⟩ = some (.int .i64 L) ∧ Below w.heap.size w wr)) (fun s39 _ => l1.length - (intOf s39).toNat)
      case atStart => exact ⟨0, emptyC S, G0, Nat.zero_le _, rfl, HTR.out, HK5.out⟩
      case round =>
        obtain ⟨wo, rfl⟩ : ∃ wo : World, wo = wr := ⟨_, rfl⟩
        obtain ⟨i, Y, G, hi, rfl, ht, hk⟩ := hrel
        have HT := Lib.hid ht
        have HK := Lib.hid hk
        obtain ⟨k0, k1, k2, bk⟩ := hk
        clear ht
        by_cases hlt : i < l1.length
        · obtain ⟨b, off, hb1, hx⟩ := (R1.out.kept bk).at hlt
          have hxr := HNG.out.1 (l1.getD i 0) (by rw [List.getD_eq_getElem?_getD, List.getElem?_eq_getElem hlt]; exact List.getElem_mem hlt)
          have HS := Lib.hid (show runC S W L (emptyC S) (l1.take (i + 1)) = stepA S W L (runC S W L (emptyC S) (l1.take i)) (l1.getD i 0) from foldl_take_succ (stepA S W L) (emptyC S) l1 0 i hlt)
          have hX0 : ((runC S W L (emptyC S) (l1.take i)).length : Int) = S := by rw [runC_count]; exact empty_count HV.out
          have HX0 := Lib.hid hX0
          clear hX0
          generalize l1.getD i 0 = x at *
          generalize runC S W L (emptyC S) (l1.take i) = X0 at *
          subst hb1
          have HLN := Lib.hid (fun w => line_any S W L x w (by omega))
          have hlr : lineI S W L x ≤ 9223372036854775807 := by
            unfold lineI
            split
            · rename_i h
              have := (line_range (validB_range HV.out).2.2.2.2.1 h.2 hxr).2
              omega
            · omega
          have HSN := Lib.hid (fun w => set_any S W L (lineI S W L x) w hlr)
          have hsv : (0 ≤ x ∧ setI S W L (lineI S W L x) = (setN S (x / L) : Int)) ∨ (x < 0 ∧ setI S W L (lineI S W L x) = -1) := by
            rcases Int.lt_or_le x 0 with h | h
            · right
              refine ⟨h, ?_⟩
              unfold lineI
              rw [if_neg (by omega)]
              unfold setI
              rw [if_neg (by omega)]
            · left
              refine ⟨h, ?_⟩
              have hl : lineI S W L x = x / L := by unfold lineI; rw [if_pos ⟨HV.out, h⟩]
              rw [hl, setI_val HV.out (line_range (validB_range HV.out).2.2.2.2.1 h hxr).1]
          obtain ⟨sv, hse⟩ : ∃ v, setI S W L (lineI S W L x) = v := ⟨_, rfl⟩
          rw [hse] at hsv HSN
          have HSV := Lib.hid hsv
          clear hse hsv hlr
          generalize lineI S W L x = ln at *
          have hQd : (fun w' => Tri w w' S W L set X0 X Y pa pc pz F G K) wo.drew := HT.out.below (Below.refl _ _).drew
          have bdr : Below w.heap.size w wo.drew := bk.drew
          have HQ := Lib.hid (show ∀ x' y', Below x'.heap.size x' y' → (fun w' => Tri w w' S W L set X0 X Y pa pc pz F G K) x' → (fun w' => Tri w w' S W L set X0 X Y pa pc pz F G K) y' from fun x' y' hb h => h.below hb)
          go_wp2_with fail
          go_region_held3 (fun w' => w'.cell? ⟨w.heap.size, 0, none⟩ = some (.int .i64 S) ∧ w'.cell? ⟨w.heap.size, 1, none⟩ = some (.int .i64 W) ∧ w'.cell? ⟨w.heap.size, 2, none⟩ = some (.int .i64 L) ∧ Tri w w' S W L set X0 X Y pa pc pz F G K ∧ Below w.heap.size w w')
            (first | exact ⟨k0, k1, k2, hQd, bdr⟩ | assumption | exact keep4 HQ.out hb1 (by assumption) | exact keep4 HQ.out hb2 (by assumption))
            (first | (go_at_call 15; refine (HLN.out _).mono ?_; rintro e w1 ⟨rfl, hb1⟩) | (go_at_call 17; refine (HSN.out _).mono ?_; rintro e w2 ⟨rfl, hb2⟩))
          have hm := keep4 HQ.out hb2 (keep4 HQ.out hb1 ⟨k0, k1, k2, hQd, bdr⟩)
          obtain ⟨e0, e1, e2, e3, e4⟩ := hm
          have E3 := Lib.hid e3
          have EK := Lib.hid (show _ ∧ _ ∧ _ ∧ _ from ⟨e0, e1, e2, e4⟩)
          clear hb1 hb2 hQd bdr HQ e0 e1 e2 e3 e4 k0 k1 k2 bk hx
          by_cases hgo : 0 ≤ sv ∧ sv = set
          · obtain ⟨hg1, hg2⟩ := hgo
            have hd1 : decide (0 ≤ sv) = true := decide_eq_true hg1
            have hd2 : (sv == set) = true := beq_iff_eq.2 hg2
            have h0x : 0 ≤ x ∧ (setN S (x / L) : Int) = set := by
              rcases HSV.out with ⟨h1, h2⟩ | ⟨h1, h2⟩
              · exact ⟨h1, by omega⟩
              · omega
            obtain ⟨h0x, hsx⟩ := h0x
            have HSX := Lib.hid hsx
            have HAC := Lib.hid (access_c E3.out.2.1 HV.out x h0x (by omega))
            clear hg2 hg1 hsx
            go_wp2_with fail
            refine HAC.out.mono ?_
            rintro e w6 ⟨rfl, G', hc6, hg6, ho6⟩
            have htri : Tri w w6 S W L set (stepA S W L X0 x) X (stepC S W L Y x) pa pc pz F G' K := by
              obtain ⟨t1, t2, t3, t4, t5, t6⟩ := E3.out
              refine ⟨t1.kept hg6 (fun k h1 h2 => (t4 k h2).1 h1), hc6, t3.kept hg6 (fun k h1 h2 => (t4 k h2).2.1 h1), fun k hk => ?_, by rw [← t5]; unfold stepC; rw [List.length_set], fun s hs => ?_⟩
              · have hw := World.block_lt_of_cell? _ _ EK.out.1
                simp only at hw
                rcases ho6 k hk with o | o
                · exact t4 k o
                · exact ⟨fun h => by have := t1.lt k h; omega, fun h => by have := t3.lt k h; omega, by omega⟩
              · exact near_yes HV.out t5 HX0.out (t6 s hs) h0x (by have := HSX.out; omega)
            have HTR6 := Lib.hid htri
            have EK6 := Lib.hid (keepC hg6 (fun k hk => (E3.out.2.2.2.1 k hk).2.2) EK.out)
            clear hc6 hg6 ho6 htri
            go_wp2_with fail
            go_roundw
            case rel => exact ⟨i + 1, stepC S W L Y x, G', by omega, by go_num, by rw [HS.out]; exact HTR6.out, EK6.out⟩
            case measure => simp only [intOf]; omega
          · have htri : Tri w w2 S W L set (stepA S W L X0 x) X Y pa pc pz F G K := by
              obtain ⟨t1, t2, t3, t4, t5, t6⟩ := E3.out
              refine ⟨t1, t2, t3, t4, t5, fun s hs => near_no (t6 s hs) (fun h0 hn => hgo ?_)⟩
              rcases HSV.out with ⟨h1, h2⟩ | ⟨h1, h2⟩
              · omega
              · omega
            have HTR6 := Lib.hid htri
            clear htri
            rcases Int.lt_or_le sv 0 with hs0 | hs0
            · have hd1 : decide (0 ≤ sv) = false := decide_eq_false (by omega)
              clear hgo
              go_wp2_with fail
              go_roundw
              case rel => exact ⟨i + 1, Y, G, by omega, by go_num, by rw [HS.out]; exact HTR6.out, EK.out⟩
              case measure => simp only [intOf]; omega
            · have hd1 : decide (0 ≤ sv) = true := decide_eq_true hs0
              have hd2 : (sv == set) = false := beq_eq_false_iff_ne.2 (fun h => hgo ⟨hs0, h⟩)
              clear hgo
              go_wp2_with fail
              go_roundw
              case rel => exact ⟨i + 1, Y, G, by omega, by go_num, by rw [HS.out]; exact HTR6.out, EK.out⟩
              case measure => simp only [intOf]; omega
        · have hin : i = l1.length := by omega
          have hX0 : runC S W L (emptyC S) (l1.take i) = X := by rw [hin, List.take_length, HX.out]
          rw [hX0] at HT
          clear hX0 hin HX HTR HK5
          obtain ⟨t1, t2, t3, t4, t5, t6⟩ := HT.out
          have HLI1 := Lib.hid (lines_c t1 HV.out)
          have T1 := Lib.hid t1
          have T2 := Lib.hid t2
          have T3 := Lib.hid t3
          have T6 := Lib.hid t6
          clear t1 t2 t3 t4 t6 HT k0 k1 k2 bk
          go_wp2_with fail
          refine HLI1.out.mono ?_
          rintro e w5 ⟨o1, v1, rfl, ht5, hb5, hf5⟩
          have HFT1 := Lib.hid (show ∀ k, tfoot o1 v1 k → ¬ F k from fun k h1 h2 => by have := T1.out.lt k h2; have := hf5 k h1; omega)
          have B5 := Lib.hid hb5
          have TA1 := Lib.hid ht5
          clear hb5 hf5 ht5 HLI1
          go_wp2_with fail
          refine (lines_c (T2.out.below B5.out) HV.out).mono ?_
          rintro e w6 ⟨o2, v2, rfl, ht6, hb6, hf6⟩
          have B6 := Lib.hid (B5.out.trans (hb6.mono B5.out.size))
          have TA2 := Lib.hid ht6
          have TA1' := Lib.hid (TA1.out.below hb6)
          clear hb6 hf6 ht6 TA1
          go_wp2_with fail
          refine (lines_c (T3.out.below B6.out) HV.out).mono ?_
          rintro e w7 ⟨o3, v3, rfl, ht7, hb7, hf7⟩
          have B7 := Lib.hid (B6.out.trans (hb7.mono B6.out.size))
          have HFT3 := Lib.hid (show ∀ k, tfoot o3 v3 k → ¬ F k from fun k h1 h2 => by have := T1.out.lt k h2; have := hf7 k h1; have := B6.out.size; omega)
          have htrio : Trio w w7 S W L X Y pa pz o1 o2 o3 v1 v2 v3 F K := ⟨T1.out.below B7.out, T3.out.below B7.out, TA1'.out.below hb7, TA2.out.below hb7, ht7, keep3 B7.out HK.out⟩
          have HTO := Lib.hid htrio
          clear hb7 hf7 ht7 htrio T1 T2 T3 B5 B6 B7 TA1' TA2 HK
          have hYS : Y.length = X.length := by omega
          go_upto_if 84 with fail
          go_cut [84] (fun s84 wx => s84 = .bool false ∧ Trio w wx S W L X Y pa pz o1 o2 o3 v1 v2 v3 F K)
          case first =>
            obtain ⟨t1, t2, t3, t4, t5, e0, e1, e2, e3⟩ := HTO.out
            clear t1 t2 t5
            by_cases hin : 0 ≤ set ∧ set < S
            · obtain ⟨h1, h2⟩ := hin
              obtain ⟨s, rfl⟩ := Int.eq_ofNat_of_zero_le h1
              have hsX : s < X.length := by omega
              have hsY : s < Y.length := by omega
              have hxx := List.getElem?_eq_getElem hsX
              have hyy := List.getElem?_eq_getElem hsY
              have hsame : Y[s] = X[s] := by rw [← nthSet_some hxx, ← nthSet_some hyy]; exact T6.out s rfl
              rw [hsame] at hyy
              generalize X[s] = xs at *
              obtain ⟨ra, rc, q1, q2, q3⟩ := t3.nth hxx
              obtain ⟨sa, sc, p1, p2, p3⟩ := t4.nth hyy
              have hxl : xs.length ≤ 8 := HSH.out xs (List.mem_of_getElem? hxx)
              have HIN := Lib.hid (fun (w' : World) (h : Trio w w' S W L X Y pa pz o1 o2 o3 v1 v2 v3 F K) =>
                (show decide (xs = xs) = true by simp) ▸ ints_any ra rc xs sa sc xs w' (h.2.2.1.row hxx q1).2 (h.2.2.2.1.row hyy p1).2 (by omega) (by omega))
              have HQ := Lib.hid (show ∀ x' y', Below x'.heap.size x' y' → (fun w' => Trio w w' S W L X Y pa pz o1 o2 o3 v1 v2 v3 F K) x' → (fun w' => Trio w w' S W L X Y pa pz o1 o2 o3 v1 v2 v3 F K) y' from fun x' y' hb h => h.below hb)
              have hd1 : decide (0 ≤ (s : Int)) = true := decide_eq_true h1
              have hd2 : decide ((s : Int) < S) = true := decide_eq_true h2
              have hsi : (s : Int) < (X.length : Int) := by omega
              have hQd : Trio w w7.drew S W L X Y pa pz o1 o2 o3 v1 v2 v3 F K := HTO.out.below (Below.refl _ _).drew
              have hc0 : w7.drew.cell? ⟨w.heap.size, 0, none⟩ = some (.int .i64 S) := by simpa using e0
              have hc1 : w7.drew.cell? ⟨o1, s, none⟩ = some (.slice ra xs.length rc) := by simpa using q2
              have hc2 : w7.drew.cell? ⟨o2, s, none⟩ = some (.slice sa xs.length sc) := by simpa using p2
              have bdr : Below w.heap.size w w7.drew := e3.drew
              clear t3 t4 q1 q3 p1 p3 hsame hxx hyy e0 e1 e2 e3 q2 p2
              go_region_held3 (fun w' => w'.cell? ⟨w.heap.size, 0, none⟩ = some (.int .i64 S) ∧ w'.cell? ⟨o1, s, none⟩ = some (.slice ra xs.length rc) ∧ w'.cell? ⟨o2, s, none⟩ = some (.slice sa xs.length sc) ∧ Trio w w' S W L X Y pa pz o1 o2 o3 v1 v2 v3 F K ∧ Below w.heap.size w w')
                (first | exact ⟨hc0, hc1, hc2, hQd, bdr⟩ | assumption | exact keep4 HQ.out hb1 (by assumption))
                (first | (go_at_call 29; refine (HIN.out _ (by obtain ⟨_, _, _, hq, _⟩ := ‹_ ∧ _ ∧ _ ∧ Trio w _ S W L X Y pa pz o1 o2 o3 v1 v2 v3 F K ∧ Below w.heap.size w _›; exact hq)).mono ?_; rintro e w1 ⟨rfl, hb1⟩))
              have hfin := (keep4 HQ.out hb1 ⟨hc0, hc1, hc2, hQd, bdr⟩).2.2.2.1
              clear hb1 hc0 hc1 hc2 hQd bdr
              go_wp2_with fail
              go_meet
              exact ⟨rfl, hfin⟩
            · rcases Int.lt_or_le set 0 with h0 | h0
              · have hd1 : decide (0 ≤ set) = false := decide_eq_false (by omega)
                clear hin t3 t4 e0 e1 e2 e3
                go_quiet (fail)
                go_wp2_with fail
                go_meet
                exact ⟨rfl, HTO.out.below (below_drewN' _ _)⟩
              · have hd1 : decide (0 ≤ set) = true := decide_eq_true h0
                have hd2 : decide (set < S) = false := decide_eq_false (fun h => hin ⟨h0, h⟩)
                clear hin t3 t4 e1 e2 e3
                go_quiet (fail)
                go_wp2_with fail
                go_meet
                exact ⟨rfl, HTO.out.below (below_drewN' _ _)⟩
          case rest =>
            obtain ⟨rfl, hcut⟩ := hcut
            have HTC := Lib.hid hcut
            have HF7 := Lib.hid (flush_c hcut.1 HV.out)
            clear hcut HTO
            go_wp2_with fail
            refine HF7.out.mono ?_
            rintro e w8 ⟨rfl, F8, hc8, hg8, ho8⟩
            have HAC := Lib.hid (access_c hc8 HV.out 7 (by omega) (by omega))
            have HG8 := Lib.hid hg8
            have HO8 := Lib.hid ho8
            have HK7 := Lib.hid HTC.out
            clear hc8 hg8 ho8 HF7
            go_wp2_with fail
            refine HAC.out.mono ?_
            rintro e w9 ⟨rfl, F9, hc9, hg9, ho9⟩
            have hrest : Rest w w9 S W L X pz o1 o3 v1 v3 K := HTC.out.rest (HG8.out.trans hg9 HO8.out) HF.out HFK.out HFT1.out HFT3.out
            have HR9 := Lib.hid hrest
            clear hc9 hg9 ho9 hrest HAC HG8 HO8 HK7
            go_wp2_with fail
            go_loopw [91] (fun s91 wr => ∃ s : Nat, s ≤ X.length ∧ s91 = .int .i64 (s : Int) ∧ Rest w wr S W L X pz o1 o3 v1 v3 K) (fun s91 _ => X.length - (intOf s91).toNat)
            case atStart => exact ⟨0, Nat.zero_le _, rfl, HR9.out⟩
            case round =>
              obtain ⟨s, hs, rfl, hr⟩ := hrel
              have HR := Lib.hid hr
              clear hr
              have hS2 := (validB_range HV.out).2.1
              have hXL : (X.length : Int) ≤ 1000000 := by omega
              clear hS2
              by_cases hsl : s < X.length
              · have hxx := List.getElem?_eq_getElem hsl
                have hxl : X[s].length ≤ 8 := HSH.out _ (List.getElem_mem hsl)
                generalize X[s] = xs at *
                obtain ⟨r1, r2, r3, r4⟩ := HR.out
                obtain ⟨ra, rc, q1, q2, q3⟩ := r2.nth hxx
                obtain ⟨sa, sc, p1, p2, p3⟩ := r3.nth hxx
                have HXX := Lib.hid hxx
                have HIN1 := Lib.hid (fun (w' : World) (h : Rest w w' S W L X pz o1 o3 v1 v3 K) =>
                  (show decide (xs = xs) = true by simp) ▸ ints_any sa sc xs ra rc xs w' (h.2.2.1.row hxx p1).2 (h.2.1.row hxx q1).2 (by omega) (by omega))
                have HLZ := Lib.hid (fun (w' : World) (h : Rest w w' S W L X pz o1 o3 v1 v3 K) => lines_c h.1 HV.out)
                have HIN2 := Lib.hid (fun (w' : World) (h : Rest w w' S W L X pz o1 o3 v1 v3 K) (b : Option Addr) (c : Nat) (hb : ArgI w'.heap.size w' b xs) =>
                  (show decide (xs = xs) = true by simp) ▸ ints_any b c xs ra rc xs w' hb (h.2.1.row hxx q1).2 (by omega) (by omega))
                have HQ := Lib.hid (show ∀ x' y', Below x'.heap.size x' y' → (fun w' => Rest w w' S W L X pz o1 o3 v1 v3 K) x' → (fun w' => Rest w w' S W L X pz o1 o3 v1 v3 K) y' from fun x' y' hb h => h.below hb)
                have hsi : (s : Int) < (X.length : Int) := by omega
                have hQd : Rest w wr.drew S W L X pz o1 o3 v1 v3 K := HR.out.below (Below.refl _ _).drew
                have hc0 : wr.drew.cell? ⟨w.heap.size, 0, none⟩ = some (.int .i64 S) := by simpa using r4.1
                have hc1 : wr.drew.cell? ⟨o1, s, none⟩ = some (.slice ra xs.length rc) := by simpa using q2
                have hc2 : wr.drew.cell? ⟨o3, s, none⟩ = some (.slice sa xs.length sc) := by simpa using p2
                have bdr : Below w.heap.size w wr.drew := HR.out.bel.drew
                clear r1 r2 r3 r4 q1 q2 q3 p1 p2 p3 hxx
                have tok1 : True := trivial
                go_wp2_with fail
                clear hc0
                go_region_with (first | (go_at_call 29; have _t := tok1; refine (HIN1.out _ hQd).mono ?_; rintro e w1 ⟨rfl, hb1⟩; have hq1 := hQd.below hb1; have hd1 := cell_kept hb1 hc1; clear tok1 _t hb1) | (go_at_call 24; refine (HLZ.out _ hq1).mono ?_; rintro e w5 ⟨o4, v4, rfl, ht5, hb5, hf5⟩; obtain ⟨ta, tc, n1, n2, n3⟩ := ht5.nth HXX.out; have hq5 := hq1.below hb5; have hd5 := cell_kept hb5 hd1; clear n1 ht5 hf5 hb5) | (go_at_call 29; refine (HIN2.out _ hq5 _ _ n3).mono ?_; rintro e w6 ⟨rfl, hb6⟩; have hq6 := hq5.below hb6; clear hb6))
                all_goals clear hc1 hc2 hQd bdr
                all_goals go_wp2_with fail
                all_goals go_roundw
                all_goals first | exact ⟨s + 1, by omega, by go_num, hq6⟩ | (simp only [intOf]; omega)
              · go_wp2_with fail
                refine (flush_nil _).mono ?_
                rintro e w10 ⟨rfl, rfl⟩
                go_wp2_with fail
                refine (access_nil _ _).mono ?_
                rintro e w10 ⟨rfl, rfl⟩
                go_wp2_with fail
                refine (probe_nil _ _).mono ?_
                rintro e w10 ⟨rfl, rfl⟩
                go_wp2_with fail
                refine (age_nil _ _).mono ?_
                rintro e w10 ⟨rfl, rfl⟩
                go_wp2_with fail
                refine (lines_nil _).mono ?_
                rintro e w10 ⟨rfl, rfl⟩
                go_wp2_with fail
                refine (clone_nil _).mono ?_
                rintro e w10 ⟨rfl, rfl⟩
                go_wp2_with fail
                go_ret
                exact ⟨rfl, HR.out.bel⟩
  · have HM1 := Lib.hid (fun w => made_no S W L (.slice a1 l1.length c1) w (Bool.eq_false_iff.2 hv))
    have HM2 := Lib.hid (fun w => made_no S W L (.slice none 0 0) w (Bool.eq_false_iff.2 hv))
    clear hv
    have tok1 : True := trivial
    go_region_held3 (fun w' => w'.cell? ⟨w.heap.size, 0, none⟩ = some (.int .i64 S) ∧ w'.cell? ⟨w.heap.size, 1, none⟩ = some (.int .i64 W) ∧ w'.cell? ⟨w.heap.size, 2, none⟩ = some (.int .i64 L) ∧ Below w.heap.size w w')
      (first | exact ⟨k0, k1, k2, b1.drew⟩ | assumption | exact keep3 hb5 (by assumption) | exact keep3 hb4 (by assumption))
      (first | (go_at_call 19; have _t := tok1; refine (HM1.out _).mono ?_; rintro e w4 ⟨rfl, hb4⟩; clear tok1 _t) | (go_at_call 19; refine (HM2.out _).mono ?_; rintro e w5 ⟨rfl, hb5⟩))
    obtain ⟨_, _, _, bq⟩ := keep3 hb5 (keep3 hb4 ⟨k0, k1, k2, b1.drew⟩)
    have BQ := Lib.hid bq
    clear bq
    go_wp2_with fail
    refine (HG1.out _ BQ.out).mono ?_
    rintro e w2 ⟨rfl, rfl⟩
    go_wp2_with fail
    all_goals go_ret
    all_goals exact ⟨rfl, BQ.out⟩

end Go.Proofs.Ytgpakmcboppfhaa
