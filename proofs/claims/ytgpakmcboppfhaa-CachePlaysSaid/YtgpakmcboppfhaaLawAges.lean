/- CacheAges returns true: Ages, Lines and Probe are consistent. -/
import Derived.Test.YtgpakmcboppfhaaK
import Derived.Test.YtgpakmcboppfhaaS
namespace Go.Proofs.Ytgpakmcboppfhaa
set_option linter.unusedVariables false
set_option linter.unusedSimpArgs false
open Go.RowKit

theorem good_age {S B : Int} {X : List (List Int)} (h : Good S B X) {s i : Nat} {xs : List Int} {k : Int} (hs : X[s]? = some xs) (hi : xs[i]? = some k) :
    0 ≤ k ∧ k ≤ B ∧ setN S k = s ∧ ageOf (nthSet X (setN S k)) k = (i : Int) := by
  obtain ⟨q1, q2, q3⟩ := (h s xs hs).2 k (List.mem_of_getElem? hi)
  exact ⟨q1, q2, q3, by rw [q3, nthSet_some hs]; exact ageOf_nth (h s xs hs).1 hi⟩

theorem hit_age {S B L : Int} {X : List (List Int)} (h : Good S B X) {s i : Nat} {xs : List Int} {k a : Int} (hs : X[s]? = some xs) (hi : xs[i]? = some k) (ha : a / L = k) : hitC S L X a = true := by
  obtain ⟨q1, q2, q3⟩ := (h s xs hs).2 k (List.mem_of_getElem? hi)
  unfold hitC
  rw [ha, q3, nthSet_some hs]
  exact List.contains_iff_mem.2 (List.mem_of_getElem? hi)

theorem absent {S W L : Int} {X : List (List Int)} (hv : validB S W L = true) (hc : (X.length : Int) = S) {line : Int} (h : X.flatten.contains line = false) : ageOf (nthSet X (setN S line)) line = -1 ∧ (nthSet X (setN S line)).contains line = false := by
  have hx := nthSet_at hv hc line
  have hn : (nthSet X (setN S line)).contains line = false := by
    apply Bool.eq_false_iff.2
    intro hm
    have : line ∈ X.flatten := List.mem_flatten.2 ⟨_, List.mem_of_getElem? hx, List.contains_iff_mem.1 hm⟩
    rw [List.contains_iff_mem.2 this] at h
    cases h
  refine ⟨?_, hn⟩
  unfold ageOf
  rw [if_neg (by rw [hn]; simp)]

theorem flat_next {X : List (List Int)} {s : Nat} {xs : List Int} (hs : X[s]? = some xs) : (X.take (s + 1)).flatten = (X.take s).flatten ++ xs := by
  rw [List.take_add_one, hs, List.flatten_append]; simp

theorem contains_snoc (A : List Int) (k line : Int) : (A ++ [k]).contains line = (A.contains line || (k == line)) := by
  rw [Bool.eq_iff_iff, Bool.or_eq_true, List.contains_iff_mem, List.contains_iff_mem, List.mem_append, beq_iff_eq, List.mem_singleton]
  constructor
  · rintro (h | h)
    · exact .inl h
    · exact .inr h.symm
  · rintro (h | h)
    · exact .inl h
    · exact .inr h.symm

set_option maxRecDepth 100000 in
set_option maxHeartbeats 4000000 in
theorem ages_row (S W L : Int) (a1 : Option Addr) (c1 : Nat) (l1 : List Int) (line : Int) (w : World)
    (r1 : ArgI w.heap.size w a1 l1) (y1 : l1.length * 8 ≤ 140737488351232) (i1 : InI l1) (il : -9223372036854775808 ≤ line ∧ line ≤ 9223372036854775807) :
    Calls Try.prog 6 #[.agg #[.int .i64 S, .int .i64 W, .int .i64 L], .slice a1 l1.length c1, .int .i64 line] w fun e w' => e = .returned (.bool true) ∧ Below w.heap.size w w' := by
  have HB := Lib.hid ((Below.refl w.heap.size w).alloc (Nat.le_refl _) (.cells #[.int .i64 S, .int .i64 W, .int .i64 L] 23))
  have start : ∀ W1, Below (w.alloc (.cells #[.int .i64 S, .int .i64 W, .int .i64 L] 23)).heap.size (w.alloc (.cells #[.int .i64 S, .int .i64 W, .int .i64 L] 23)) W1 →
      W1.cell? ⟨w.heap.size, 0, none⟩ = some (.int .i64 S) ∧ W1.cell? ⟨w.heap.size, 1, none⟩ = some (.int .i64 W) ∧ W1.cell? ⟨w.heap.size, 2, none⟩ = some (.int .i64 L) ∧ Below w.heap.size w W1 :=
    fun W1 hb => ⟨cell_kept hb (by simp), cell_kept hb (by simp), cell_kept hb (by simp), HB.out.trans (hb.mono (by simp))⟩
  have HST := Lib.hid start
  have R1 := Lib.hid r1
  have I1 := Lib.hid i1
  have HG1 := Lib.hid (fun (w' : World) (h : Below w.heap.size w w') => great_any a1 c1 l1 w' (R1.out.kept h) (by omega))
  obtain ⟨il1, il2⟩ := il
  clear start r1 i1
  go_enter Try.func6, Try.ntmps6
  go_wp2_with (first | (go_at_call 11; go_must (refine (awake_any _).mono ?_); rintro e w1 ⟨rfl, hb1⟩; obtain ⟨k0, k1, k2, b1⟩ := HST.out _ hb1; clear hb1))
  by_cases hv : validB S W L = true
  · have HM := Lib.hid (made_yes S W L a1 c1 l1 w1 hv (R1.out.kept b1) (by omega) I1.out)
    have HV := Lib.hid hv
    clear hv
    refine HM.out.mono ?_
    rintro e w2 ⟨pb, F, rfl, hc2, hb2, hf2⟩
    have K2 := Lib.hid (keep3 hb2 ⟨k0, k1, k2, b1⟩)
    have HC2 := Lib.hid hc2
    clear k0 k1 k2 b1 hf2 hc2 hb2 HM
    go_wp2_with fail
    refine (HG1.out _ K2.out.2.2.2).mono ?_
    rintro e w2 ⟨rfl, rfl⟩
    by_cases g1 : greatB l1 = true
    · go_wp2_with fail
      go_ret
      exact ⟨rfl, K2.out.2.2.2⟩
    have g1' : greatB l1 = false := Bool.eq_false_iff.2 g1
    clear g1
    by_cases hbig : 100000 < line
    · go_wp2_with fail
      go_ret
      exact ⟨rfl, K2.out.2.2.2⟩
    have HNG := Lib.hid (not_great g1')
    have HGX := Lib.hid (good_run (B := 100000) HV.out l1 (empty_count HV.out) (good_empty S 100000) HNG.out.1)
    have HSH := Lib.hid (runC_short (S := S) (W := W) (L := L) l1 (empty_short S W))
    have HCX := Lib.hid (show ((runC S W L (emptyC S) l1).length : Int) = S by rw [runC_count]; exact empty_count HV.out)
    generalize runC S W L (emptyC S) l1 = X at *
    have HLI := Lib.hid (lines_c HC2.out HV.out)
    have hXl : (X.length : Int) ≤ 64 := by have := HCX.out; have := (validB_range HV.out).2.1; omega
    go_wp2_with fail
    refine HLI.out.mono ?_
    rintro e w8 ⟨ob, us, rfl, ht8, hb8, hf8⟩
    have HT8 := Lib.hid ht8
    have HC8 := Lib.hid (HC2.out.below hb8)
    have K8 := Lib.hid (keep3 hb8 K2.out)
    clear ht8 hb8 hf8
    go_wp2_with fail
    go_loopw [8, 31] (fun s8 s31 wr => ∃ s : Nat, s ≤ X.length ∧ s31 = .int .i64 s ∧ s8 = .bool ((X.take s).flatten.contains line) ∧ TableAt wr ob us X ∧ CacheAt wr pb S W L X F ∧
      (wr.cell? ⟨w.heap.size, 0, none⟩ = some (.int .i64 S) ∧ wr.cell? ⟨w.heap.size, 1, none⟩ = some (.int .i64 W) ∧ wr.cell? ⟨w.heap.size, 2, none⟩ = some (.int .i64 L) ∧ Below w.heap.size w wr)) (fun _ s31 _ => X.length - (intOf s31).toNat)
    case atStart => exact ⟨0, Nat.zero_le _, rfl, rfl, HT8.out, HC8.out, K8.out⟩
    case round =>
      obtain ⟨wo, rfl⟩ : ∃ wo : World, wo = wr := ⟨_, rfl⟩
      obtain ⟨s, hs, rfl, rfl, ht, hc, hk⟩ := hrel
      have HTS := Lib.hid ht
      have HCS := Lib.hid hc
      have HKS := Lib.hid hk
      clear ht hc hk
      by_cases hsl : s < X.length
      · have HXS := Lib.hid (List.getElem?_eq_getElem hsl)
        generalize X[s] = xs at *
        obtain ⟨b, c, q1, q2, q3⟩ := HTS.out.nth HXS.out
        have HQ3 := Lib.hid q3
        have hxW : (xs.length : Int) ≤ W := by
          have h1 := HSH.out xs (List.mem_of_getElem? HXS.out)
          have h2 := (validB_range HV.out).2.2.1
          omega
        have hW8 := (validB_range HV.out).2.2.2.1
        have c1 := HKS.out.2.1
        have HFL := Lib.hid (flat_next HXS.out)
        clear q1 q3
        go_wp2_with fail
        go_loopw [8, 43] (fun s8 s43 wr3 => ∃ j : Nat, j ≤ xs.length ∧ s43 = .int .i64 j ∧ s8 = .bool (((X.take s).flatten ++ xs.take j).contains line) ∧ TableAt wr3 ob us X ∧ CacheAt wr3 pb S W L X F ∧
          (wr3.cell? ⟨w.heap.size, 0, none⟩ = some (.int .i64 S) ∧ wr3.cell? ⟨w.heap.size, 1, none⟩ = some (.int .i64 W) ∧ wr3.cell? ⟨w.heap.size, 2, none⟩ = some (.int .i64 L) ∧ Below w.heap.size w wr3) ∧ ArgI wo.heap.size wr3 b xs) (fun _ s43 _ => xs.length - (intOf s43).toNat)
        case atStart => exact ⟨0, Nat.zero_le _, rfl, by simp, HTS.out, HCS.out, HKS.out, HQ3.out⟩
        case round =>
          obtain ⟨j, hj, rfl, rfl, ht, hc, hk, hq⟩ := hrel
          have HTJ := Lib.hid ht
          have HCJ := Lib.hid hc
          have HKJ := Lib.hid hk
          have HQJ := Lib.hid hq
          clear ht hc hk hq
          by_cases hjl : j < xs.length
          · obtain ⟨b', off', hb', hx'⟩ := HQJ.out.at hjl
            have HK := Lib.hid (show xs[j]? = some (xs.getD j 0) by rw [List.getD_eq_getElem?_getD, List.getElem?_eq_getElem hjl]; rfl)
            have HCT := Lib.hid (show ((X.take s).flatten ++ xs.take (j + 1)).contains line = (((X.take s).flatten ++ xs.take j).contains line || (xs.getD j 0 == line)) by
              rw [List.take_add_one, HK.out, ← List.append_assoc]
              exact contains_snoc _ _ _)
            generalize xs.getD j 0 = k at *
            generalize ((X.take s).flatten ++ xs.take j).contains line = fnd at *
            obtain ⟨k1, k2, k3, k4⟩ := good_age HGX.out HXS.out HK.out
            obtain ⟨s1, s2, w1', w2', l1', l2'⟩ := validB_range HV.out
            obtain ⟨P, hP⟩ : ∃ P : Int, k * L = P := ⟨_, rfl⟩
            have hP1 : P / L = k := by rw [← hP]; exact Int.mul_ediv_cancel _ (by omega)
            have hP2 : (P + L - 1) / L = k := by
              rw [← hP, show k * L + L - 1 = (L - 1) + k * L by omega, Int.add_mul_ediv_right _ _ (by omega), Int.ediv_eq_zero_of_lt (by omega) (by omega)]; omega
            have hPb : 0 ≤ P ∧ P ≤ 1600000 := by
              rw [← hP]
              refine ⟨Int.mul_nonneg k1 (by omega), ?_⟩
              have := Int.mul_le_mul k2 l2' (by omega) (by omega)
              omega
            obtain ⟨p1, p2⟩ := hPb
            have hw1 : wrap64 (k * L) = P := by rw [hP]; unfold wrap64; omega
            have c0 := HKJ.out.1
            have c1 := HKJ.out.2.1
            have c2 := HKJ.out.2.2.1
            have HSET := Lib.hid (k3 ▸ set_val S W L k wr HV.out k1 (by omega) : Calls Try.prog 17 #[.agg #[.int .i64 S, .int .i64 W, .int .i64 L], .int .i64 k] wr fun e w' => e = .returned (.int .i64 (s : Int)) ∧ Below wr.heap.size wr w')
            have HAGE := Lib.hid (fun (w' : World) (h : Below wr.heap.size wr w') => (k4 ▸ age_c (HCJ.out.below h) HV.out k k1 (by omega) : Calls Try.prog 25 #[.pointer (some ⟨pb, 0, none⟩), .int .i64 k] w' fun e w'' => e = .returned (.int .i64 (j : Int)) ∧ Below w'.heap.size w' w''))
            have HPR1 := Lib.hid (fun (w' : World) (h : Below wr.heap.size wr w') => (hit_age HGX.out HXS.out HK.out hP1 ▸ probe_c (HCJ.out.below h) HV.out P p1 (by omega) : Calls Try.prog 26 #[.pointer (some ⟨pb, 0, none⟩), .int .i64 P] w' fun e w'' => e = .returned (.bool true) ∧ Below w'.heap.size w' w''))
            have HPR2 := Lib.hid (fun (w' : World) (h : Below wr.heap.size wr w') => (hit_age HGX.out HXS.out HK.out hP2 ▸ probe_c (HCJ.out.below h) HV.out (P + L - 1) (by omega) (by omega) : Calls Try.prog 26 #[.pointer (some ⟨pb, 0, none⟩), .int .i64 (P + L - 1)] w' fun e w'' => e = .returned (.bool true) ∧ Below w'.heap.size w' w''))
            have hn1 : ((s : Int) != (s : Int)) = false := by simp
            have hn2 : ((j : Int) != (j : Int)) = false := by simp
            clear k3 k4 hP hP1 hP2
            subst hb'
            go_wp2_with fail
            refine HSET.out.mono ?_
            rintro e w10 ⟨rfl, hb10⟩
            have B10 := Lib.hid hb10
            clear hb10
            go_wp2_with fail
            refine (HAGE.out _ B10.out).mono ?_
            rintro e w11 ⟨rfl, hb11⟩
            have B11 := Lib.hid (B10.out.trans (hb11.mono B10.out.size))
            obtain ⟨e0, e1, e2, _⟩ := keep3 B11.out HKJ.out
            clear hb11 B10
            go_wp2_with fail
            refine (HPR1.out _ B11.out).mono ?_
            rintro e w12 ⟨rfl, hb12⟩
            have B12 := Lib.hid (B11.out.trans (hb12.mono B11.out.size))
            obtain ⟨f0, f1, f2, _⟩ := keep3 B12.out HKJ.out
            clear hb12 B11 e0 e1 e2
            go_wp2_with fail
            refine (HPR2.out _ B12.out).mono ?_
            rintro e w13 ⟨rfl, hb13⟩
            have B13 := Lib.hid (B12.out.trans (hb13.mono B12.out.size))
            clear hb13 B12 f0 f1 f2
            have fin : TableAt w13 ob us X ∧ CacheAt w13 pb S W L X F ∧ (w13.cell? ⟨w.heap.size, 0, none⟩ = some (.int .i64 S) ∧ w13.cell? ⟨w.heap.size, 1, none⟩ = some (.int .i64 W) ∧ w13.cell? ⟨w.heap.size, 2, none⟩ = some (.int .i64 L) ∧ Below w.heap.size w w13) ∧ ArgI wo.heap.size w13 (some ⟨b', off', none⟩) xs :=
              ⟨HTJ.out.below B13.out, HCJ.out.below B13.out, keep3 B13.out HKJ.out, HQJ.out.kept B13.out⟩
            have FIN := Lib.hid fin
            clear fin c0 c1 c2
            cases fnd
            · by_cases hkl : k = line
              · have hb : (k == line) = true := beq_iff_eq.2 hkl
                have HCT2 := Lib.hid (HCT.out.trans (by rw [hb]; rfl) : ((X.take s).flatten ++ xs.take (j + 1)).contains line = true)
                clear hkl
                go_wp2_with fail
                go_roundw
                case rel => exact ⟨j + 1, by omega, by go_num, by rw [HCT2.out], FIN.out.1, FIN.out.2.1, FIN.out.2.2.1, FIN.out.2.2.2⟩
                case measure => simp [intOf]; omega
              · have hb : (k == line) = false := beq_eq_false_iff_ne.2 hkl
                have HCT2 := Lib.hid (HCT.out.trans (by rw [hb]; rfl) : ((X.take s).flatten ++ xs.take (j + 1)).contains line = false)
                clear hkl
                go_wp2_with fail
                go_roundw
                case rel => exact ⟨j + 1, by omega, by go_num, by rw [HCT2.out], FIN.out.1, FIN.out.2.1, FIN.out.2.2.1, FIN.out.2.2.2⟩
                case measure => simp [intOf]; omega
            · have HCT2 := Lib.hid (HCT.out.trans (by rfl) : ((X.take s).flatten ++ xs.take (j + 1)).contains line = true)
              go_wp2_with fail
              go_roundw
              case rel => exact ⟨j + 1, by omega, by go_num, by rw [HCT2.out], FIN.out.1, FIN.out.2.1, FIN.out.2.2.1, FIN.out.2.2.2⟩
              case measure => simp [intOf]; omega
          · have HJ := Lib.hid (show ((X.take s).flatten ++ xs.take j).contains line = (X.take (s + 1)).flatten.contains line by rw [HFL.out, show j = xs.length by omega, List.take_length])
            generalize ((X.take s).flatten ++ xs.take j).contains line = fnd at *
            go_wp2_with fail
            go_roundw
            case rel => exact ⟨s + 1, by omega, by go_num, by rw [HJ.out], HTJ.out, HCJ.out, HKJ.out⟩
            case measure => simp [intOf]; omega
      · have hsn : s = X.length := by omega
        have HF := Lib.hid (show (X.take s).flatten.contains line = X.flatten.contains line by rw [hsn, List.take_length])
        clear hsn
        generalize (X.take s).flatten.contains line = fnd at *
        cases fnd
        · obtain ⟨ab1, ab2⟩ := absent HV.out HCX.out HF.out.symm
          by_cases hl0 : line < 0
          · clear ab1 ab2
            go_wp2_with fail
            refine (age_neg pb line _ hl0).mono ?_
            rintro e w10 ⟨rfl, rfl⟩
            go_wp2_with fail
            go_ret
            exact ⟨rfl, HKS.out.2.2.2⟩
          · have hd1 : decide (line < 0) = false := decide_eq_false hl0
            obtain ⟨s1, s2, w1', w2', l1', l2'⟩ := validB_range HV.out
            obtain ⟨P, hP⟩ : ∃ P : Int, line * L = P := ⟨_, rfl⟩
            have hP1 : P / L = line := by rw [← hP]; exact Int.mul_ediv_cancel _ (by omega)
            have hPb : 0 ≤ P ∧ P ≤ 1600000 := by
              rw [← hP]
              refine ⟨Int.mul_nonneg (by omega) (by omega), ?_⟩
              have := Int.mul_le_mul (show line ≤ 100000 by omega) l2' (by omega) (by omega)
              omega
            obtain ⟨p1, p2⟩ := hPb
            have hw1 : wrap64 (line * L) = P := by rw [hP]; unfold wrap64; omega
            have HAGE := Lib.hid (ab1 ▸ age_c HCS.out HV.out line (by omega) (by omega) : Calls Try.prog 25 #[.pointer (some ⟨pb, 0, none⟩), .int .i64 line] wo fun e w'' => e = .returned (.int .i64 (-1)) ∧ Below wo.heap.size wo w'')
            have hhit : hitC S L X P = false := by unfold hitC; rw [hP1]; exact ab2
            have HPR := Lib.hid (fun (w' : World) (h : Below wo.heap.size wo w') => (hhit ▸ probe_c (HCS.out.below h) HV.out P p1 (by omega) : Calls Try.prog 26 #[.pointer (some ⟨pb, 0, none⟩), .int .i64 P] w' fun e w'' => e = .returned (.bool false) ∧ Below w'.heap.size w' w''))
            clear ab1 ab2 hP hP1 hhit
            go_wp2_with fail
            refine HAGE.out.mono ?_
            rintro e w10 ⟨rfl, hb10⟩
            have B10 := Lib.hid hb10
            obtain ⟨e0, e1, e2, _⟩ := keep3 B10.out HKS.out
            clear hb10
            go_wp2_with fail
            refine (HPR.out _ B10.out).mono ?_
            rintro e w11 ⟨rfl, hb11⟩
            have B11 := Lib.hid (B10.out.trans (hb11.mono B10.out.size))
            obtain ⟨_, _, _, bz⟩ := keep3 B11.out HKS.out
            go_wp2_with fail
            go_ret
            exact ⟨rfl, bz⟩
        · go_wp2_with fail
          go_ret
          exact ⟨rfl, HKS.out.2.2.2⟩
  · have HM := Lib.hid (made_no S W L (.slice a1 l1.length c1) w1 (Bool.eq_false_iff.2 hv))
    clear hv
    refine HM.out.mono ?_
    rintro e w2 ⟨rfl, hb2⟩
    have hbb := b1.trans (hb2.mono b1.size)
    have HBB := Lib.hid hbb
    clear hb2 hbb
    go_wp2_with fail
    refine (HG1.out _ HBB.out).mono ?_
    rintro e w2 ⟨rfl, rfl⟩
    go_wp2_with fail
    all_goals go_ret
    all_goals exact ⟨rfl, HBB.out⟩

end Go.Proofs.Ytgpakmcboppfhaa
