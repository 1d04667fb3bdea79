/- CachePlays returns true: the walk. -/
import Derived.Test.YtgpakmcboppfhaaLawPlays
namespace Go.Proofs.Ytgpakmcboppfhaa
set_option linter.unusedVariables false
set_option linter.unusedSimpArgs false
open Go.RowKit

set_option maxRecDepth 100000 in
set_option maxHeartbeats 4000000 in
theorem plays_row (S W L : Int) (a1 : Option Addr) (c1 : Nat) (l1 : List Int) (w : World)
    (r1 : ArgI w.heap.size w a1 l1) (y1 : l1.length * 8 ≤ 140737488351232) (i1 : InI l1) :
    Calls Try.prog 9 #[.agg #[.int .i64 S, .int .i64 W, .int .i64 L], .slice a1 l1.length c1] w fun e w' => e = .returned (.bool true) ∧ Below w.heap.size w w' := by
  have HB := Lib.hid ((Below.refl w.heap.size w).alloc (Nat.le_refl _) (.cells #[.int .i64 S, .int .i64 W, .int .i64 L] 23))
  have start : ∀ W1, Below (w.alloc (.cells #[.int .i64 S, .int .i64 W, .int .i64 L] 23)).heap.size (w.alloc (.cells #[.int .i64 S, .int .i64 W, .int .i64 L] 23)) W1 →
      W1.cell? ⟨w.heap.size, 0, none⟩ = some (.int .i64 S) ∧ W1.cell? ⟨w.heap.size, 1, none⟩ = some (.int .i64 W) ∧ W1.cell? ⟨w.heap.size, 2, none⟩ = some (.int .i64 L) ∧ Below w.heap.size w W1 :=
    fun W1 hb => ⟨cell_kept hb (by simp), cell_kept hb (by simp), cell_kept hb (by simp), HB.out.trans (hb.mono (by simp))⟩
  have HST := Lib.hid start
  have R1 := Lib.hid r1
  have I1 := Lib.hid i1
  have HG1 := Lib.hid (fun (w' : World) (h : Below w.heap.size w w') => great_any a1 c1 l1 w' (R1.out.kept h) (by omega))
  clear start r1 i1
  go_enter Try.func9, Try.ntmps9
  go_wp2_with (first | (go_at_call 11; go_must (refine (awake_any _).mono ?_); rintro e w1 ⟨rfl, hb1⟩; obtain ⟨k0, k1, k2, b1⟩ := HST.out _ hb1; clear hb1))
  by_cases hv : validB S W L = true
  · have HM := Lib.hid (new_yes S W L w1 hv)
    have HV := Lib.hid hv
    clear hv
    refine HM.out.mono ?_
    rintro e w2 ⟨pb, F, rfl, hc2, hb2, hf2⟩
    have hlt := World.block_lt_of_cell? w1 _ k0
    simp only at hlt
    have hp2 : Play w w2 pb S W L (.slice none 0 0) [] (emptyC S) := ⟨F, hc2, after_empty HV.out, .inl ⟨rfl, rfl⟩, by simp, fun k hk => by simp [own, Value.ownBlock] at hk, fun k hk => by have := hf2 k hk; omega, keep3 hb2 ⟨k0, k1, k2, b1⟩⟩
    have HP2 := Lib.hid hp2
    clear k0 k1 k2 b1 hc2 hb2 hf2 hp2 hlt HM
    go_wp2_with fail
    refine (HG1.out _ HP2.out.mid.bel).mono ?_
    rintro e w2 ⟨rfl, rfl⟩
    by_cases g1 : greatB l1 = true
    · go_wp2_with fail
      go_ret
      exact ⟨rfl, HP2.out.mid.bel⟩
    have g1' : greatB l1 = false := Bool.eq_false_iff.2 g1
    clear g1
    have HNG := Lib.hid (not_great g1')
    have hl200 : (l1.length : Int) ≤ 200 := by have := HNG.out.2; omega
    go_wp2_with fail
    go_loopw [7, 30] (fun s7 s30 wr => ∃ (i : Nat) (H : List Int) (X : List (List Int)), i ≤ l1.length ∧ s30 = .int .i64 (i : Int) ∧ H.length ≤ i ∧ Play w wr pb S W L s7 H X) (fun _ s30 _ => l1.length - (intOf s30).toNat)
    case atStart => exact ⟨0, [], emptyC S, Nat.zero_le _, rfl, Nat.le_refl _, HP2.out⟩
    case round =>
      obtain ⟨wo, rfl⟩ : ∃ wo : World, wo = wr := ⟨_, rfl⟩
      obtain ⟨i, H, X, hi, rfl, hHi, hp⟩ := hrel
      have HP := Lib.hid hp
      clear hp
      by_cases hlt : i < l1.length
      · obtain ⟨b, off, hb1, hx⟩ := (R1.out.kept HP.out.mid.bel).at hlt
        have hxr := HNG.out.1 (l1.getD i 0) (by rw [List.getD_eq_getElem?_getD, List.getElem?_eq_getElem hlt]; exact List.getElem_mem hlt)
        generalize l1.getD i 0 = x at *
        subst hb1
        by_cases hxm : x = -1
        · have hb : (x == -1) = true := beq_iff_eq.2 hxm
          have HFL := Lib.hid (HP.out.flush HV.out)
          clear hxm
          go_wp2_with fail
          refine HFL.out.mono ?_
          rintro e w5 ⟨rfl, hp5⟩
          have HP5 := Lib.hid hp5
          clear hp5
          go_wp2_with fail
          go_roundw
          case rel => exact ⟨i + 1, [], emptyC S, by omega, by go_num, Nat.zero_le _, HP5.out⟩
          case measure => simp only [intOf]; omega
        · have hb : (x == -1) = false := beq_eq_false_iff_ne.2 hxm
          clear hxm
          by_cases hneg : x < 0
          · go_wp2_with fail
            refine (probe_neg pb x _ hneg).mono ?_
            rintro e w5 ⟨rfl, rfl⟩
            go_wp2_with fail
            refine (access_neg pb x _ hneg).mono ?_
            rintro e w5 ⟨rfl, rfl⟩
            go_wp2_with fail
            go_roundw
            case rel => exact ⟨i + 1, H, X, by omega, by go_num, by omega, HP.out⟩
            case measure => simp only [intOf]; omega
          · have HLN := Lib.hid (fun w => rline_any S W L x w (by omega))
            obtain ⟨y, hy⟩ : ∃ y, x / L = y := ⟨_, rfl⟩
            rw [show lineI S W L x = y by unfold lineI; rw [if_pos ⟨HV.out, by omega⟩, hy]] at HLN
            have hyr : 0 ≤ y ∧ y ≤ 100000 := by rw [← hy]; exact line_range (validB_range HV.out).2.2.2.2.1 (by omega) (by omega)
            obtain ⟨y0, y1'⟩ := hyr
            obtain ⟨F, hc, haf, hsv, hH, hown, hF, k0, k1, k2, bk⟩ := HP.out
            have HAF := Lib.hid haf
            have HH := Lib.hid hH
            obtain ⟨va, vc, rfl, hva⟩ := hsv.arg
            have HRA := Lib.hid (fun (w' : World) (h : Below wo.heap.size wo w') => rage_any S W L va vc H y w' HV.out (hva.kept h) (fun k hk => by have := hH k hk; omega) (by omega) y0 (by omega))
            have hag : decide (0 ≤ ageOf (conts S W H (setN S y)) y) = hitC S L X x := by
              rw [ageOf_ge]; unfold hitC; rw [hy, haf.2 _ (setN_lt y HV.out)]
            have hsh := step_head HV.out haf.1 x
            rw [hy] at hsh
            obtain ⟨hh1, hh2⟩ := hsh
            have hsa : stepA S W L X x = stepC S W L X x := by unfold stepA; rw [if_neg (by omega)]
            have HSA := Lib.hid hsa
            have HY := Lib.hid hy
            have M0 := Lib.hid HP.out.mid
            have HPR1 := Lib.hid (fun (w' : World) (h : Mid w w' pb S W L (.slice va H.length vc) H X) => h.probe HV.out x (by omega) (by omega))
            have HAC1 := Lib.hid (fun (w' : World) (h : Mid w w' pb S W L (.slice va H.length vc) H X) => h.access HV.out x (by omega) (by omega))
            have HPR2 := Lib.hid (fun (w' : World) (h : Mid w w' pb S W L (.slice va H.length vc) H (stepC S W L X x)) => h.probe HV.out x (by omega) (by omega))
            have HAG2 := Lib.hid (fun (w' : World) (h : Mid w w' pb S W L (.slice va H.length vc) H (stepC S W L X x)) => h.age HV.out y y0 y1')
            rw [hh1] at HPR2
            rw [hh2] at HAG2
            obtain ⟨hit, hhit⟩ : ∃ b, hitC S L X x = b := ⟨_, rfl⟩
            rw [hhit] at HPR1 HAC1 hag
            obtain ⟨ag, hage⟩ : ∃ g, ageOf (conts S W H (setN S y)) y = g := ⟨_, rfl⟩
            rw [hage] at HRA hag
            clear hc haf hsv hH hown hF hva hh1 hh2 hsa hy hhit hage
            generalize stepC S W L X x = X' at *
            go_wp2_with fail
            refine (HLN.out _).mono ?_
            rintro e w5 ⟨rfl, hb5⟩
            have M5 := Lib.hid (M0.out.below hb5)
            have B5 := Lib.hid hb5
            obtain ⟨e0, e1, e2⟩ := M5.out.box
            clear hb5 k0 k1 k2 bk
            go_wp2_with fail
            refine (HRA.out _ B5.out).mono ?_
            rintro e w6 ⟨rfl, hb6⟩
            have M6 := Lib.hid (M5.out.below hb6)
            clear hb6 e0 e1 e2
            cases hit
            all_goals
              go_wp2_with fail
              refine (HPR1.out _ M6.out).mono ?_
              rintro e w7 ⟨rfl, hm7⟩
              have M7 := Lib.hid hm7
              clear hm7
              go_wp2_with fail
              refine (HAC1.out _ M7.out).mono ?_
              rintro e w8 ⟨rfl, hm8⟩
              have M8 := Lib.hid hm8
              clear hm8
              go_wp2_with fail
              refine (HPR2.out _ M8.out).mono ?_
              rintro e w9 ⟨rfl, hm9⟩
              have M9 := Lib.hid hm9
              clear hm9
              go_wp2_with fail
              refine (HAG2.out _ M9.out).mono ?_
              rintro e wt ⟨rfl, hmt⟩
              have MT := Lib.hid hmt
              obtain ⟨F, hcF, hsF, hoF, _⟩ := hmt
              obtain ⟨i0, hin0, hz0, hz1, hz2⟩ := info_parts Try.info3
              have hsz : w.heap.size + 1 ≤ wt.heap.size := by have := World.block_lt_of_cell? wt _ MT.out.box.1; exact this
              have HOW := Lib.hid (hsF.owns (B := w.heap.size + 1) (fun k hk => (hoF k hk).1))
              have hH200 : H.length ≤ 200 := by omega
              clear hcF hsF hoF
              go_wp2_with (first | (at_builtin; go_must (refine wpList_append_mine _ rfl _ _ 32 rfl (w.heap.size + 1) 3 i0 (.int .i64 0) 1 8 Try.underlying32 hin0 hz0 hz1 hz2 rfl (by decide) _ _ _ rfl (HOW.out.alloc _) ⟨wt.heap.size, 0, none⟩ 1 1 [.int .i64 y] rfl rfl (cell_news wt y) (one_news y) ?c3 ?c4 ?c5 ?_)))
              case c3 => unfold maxLen; omega
              case c4 => omega
              case c5 => first | omega | (rw [World.size_alloc]; omega)
              intro v' w' hown' hgrow' hfar'
              have hpl : Play w w' pb S W L v' (H ++ [x / L]) (stepA S W L X x) := by
                refine Mid.append (by rw [HSA.out]; exact MT.out) HV.out HAF.out HH.out (by omega) (by omega) ?_ ?_ ?_
                · rw [HY.out]; exact hown'
                · rw [HY.out]; exact hgrow'
                · intro k hk
                  rcases hfar' k hk with o | o
                  · exact .inl o
                  · (try rw [World.size_alloc] at o); right; omega
              have HPL := Lib.hid hpl
              clear hpl hown' hgrow' hfar'
              go_wp2_with fail
              go_roundw
              case rel => exact ⟨i + 1, H ++ [x / L], stepA S W L X x, by omega, by go_num, by simp; omega, HPL.out⟩
              case measure => simp only [intOf]; omega
      · obtain ⟨F, hc, haf, hsv, hH, hown, hF, k0, k1, k2, bk⟩ := HP.out
        have HAF := Lib.hid haf
        have HH := Lib.hid hH
        obtain ⟨va, vc, rfl, hva⟩ := hsv.arg
        have HVA := Lib.hid hva
        have HLI := Lib.hid (lines_c hc HV.out)
        have hXS : (X.length : Int) = S := haf.1
        have hH200 : H.length ≤ 200 := by omega
        have HK := Lib.hid (show _ ∧ _ ∧ _ ∧ _ from ⟨k0, k1, k2, bk⟩)
        clear hc haf hsv hH hown hF k0 k1 k2 bk hva
        go_wp2_with fail
        refine HLI.out.mono ?_
        rintro e w5 ⟨ob, us, rfl, ht5, hb5, hf5⟩
        have HT5 := Lib.hid ht5
        have HK5 := Lib.hid (keep3 hb5 HK.out)
        have HA5 := Lib.hid (HVA.out.kept hb5)
        obtain ⟨k0, k1, k2, bk⟩ := HK5.out
        have hne : ((X.length : Int) != S) = false := by rw [hXS]; simp
        have s8 := (validB_range HV.out).2.1
        clear ht5 hb5 hf5 HLI
        go_wp2_with fail
        clear k0 k1 k2 bk
        go_loopw [96] (fun s96 wr => ∃ s : Nat, s ≤ X.length ∧ s96 = .int .i64 (s : Int) ∧ TableAt wr ob us X ∧ ArgI wo.heap.size wr va H ∧
          (wr.cell? ⟨w.heap.size, 0, none⟩ = some (.int .i64 S) ∧ wr.cell? ⟨w.heap.size, 1, none⟩ = some (.int .i64 W) ∧ wr.cell? ⟨w.heap.size, 2, none⟩ = some (.int .i64 L) ∧ Below w.heap.size w wr)) (fun s96 _ => X.length - (intOf s96).toNat)
        case atStart => exact ⟨0, Nat.zero_le _, rfl, HT5.out, HA5.out, HK5.out⟩
        case round =>
          obtain ⟨s, hs, rfl, ht, ha, hk⟩ := hrel
          have HT := Lib.hid ht
          have HA := Lib.hid ha
          have HKR := Lib.hid hk
          obtain ⟨k0, k1, k2, bk⟩ := hk
          clear ht ha
          by_cases hsl : s < X.length
          · have HXS := Lib.hid (List.getElem?_eq_getElem hsl)
            have hcont : X[s] = conts S W H s := by rw [← nthSet_some HXS.out]; exact HAF.out.2 s (by omega)
            have hcl : (conts S W H s).length ≤ 8 := by have := conts_len S W H s; have := (validB_range HV.out).2.2.2.1; omega
            obtain ⟨b, c, q1, q2, q3⟩ := HT.out.nth HXS.out
            rw [hcont] at q1 q2 q3
            have HQ := Lib.hid q3
            have HCO := Lib.hid (contents_any S W L va vc H s wr HV.out HA.out (fun k hk => by have := HH.out k hk; omega) (by omega) (by omega))
            generalize conts S W H s = xs at *
            clear q1 q3 hcont
            go_wp2_with fail
            refine HCO.out.mono ?_
            rintro e w7 ⟨v7, rfl, hs7, hb7, ho7⟩
            obtain ⟨da, dc, rfl, hd⟩ := hs7.arg
            have HIN := Lib.hid (ints_any b c xs da dc xs w7 (HQ.out.kept hb7) hd (by omega) (by omega))
            have HT7 := Lib.hid (HT.out.below hb7)
            have HA7 := Lib.hid (HA.out.kept hb7)
            have HK7 := Lib.hid (keep3 hb7 HKR.out)
            clear hs7 hb7 ho7 hd k0 k1 k2 bk q2
            go_wp2_with fail
            refine HIN.out.mono ?_
            rintro e w8 ⟨rfl, hb8⟩
            have HT8 := Lib.hid (HT7.out.below hb8)
            have HA8 := Lib.hid (HA7.out.kept hb8)
            have HK8 := Lib.hid (keep3 hb8 HK7.out)
            have hdt : decide (xs = xs) = true := by simp
            clear hb8
            go_wp2_with fail
            go_roundw
            case rel => exact ⟨s + 1, by omega, by go_num, HT8.out, HA8.out, HK8.out⟩
            case measure => simp only [intOf]; omega
          · go_wp2_with fail
            go_ret
            exact ⟨rfl, bk⟩
  · have HM := Lib.hid (new_no S W L w1 (Bool.eq_false_iff.2 hv))
    clear hv
    refine HM.out.mono ?_
    rintro e w2 ⟨rfl, hb2⟩
    have hbb := b1.trans (hb2.mono b1.size)
    have HBB := Lib.hid hbb
    clear hb2 hbb
    go_wp2_with fail
    refine (HG1.out _ HBB.out).mono ?_
    rintro e w2 ⟨rfl, rfl⟩
    go_wp2_with fail
    all_goals go_ret
    all_goals exact ⟨rfl, HBB.out⟩

end Go.Proofs.Ytgpakmcboppfhaa
