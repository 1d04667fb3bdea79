/- CacheFlush returns true: the flush lemma. -/
import Derived.Test.YtgpakmcboppfhaaK
import Derived.Test.YtgpakmcboppfhaaQ
namespace Go.Proofs.Ytgpakmcboppfhaa
set_option linter.unusedVariables false
set_option linter.unusedSimpArgs false
open Go.RowKit

/-- A made cache, seen from the world in which the law began. -/
theorem Made.from {W0 w : World} {S W L : Int} {xss : List (List Int)} {e : Ending} {w' : World} (hb : Below W0.heap.size W0 w) (h : Made w S W L xss e w') :
    ∃ pb F, e = .returned (.pointer (some ⟨pb, 0, none⟩)) ∧ CacheAt w' pb S W L xss F ∧ Below W0.heap.size W0 w' ∧ (∀ k, F k → w.heap.size ≤ k) := by
  obtain ⟨pb, F, h1, h2, h3, h4⟩ := h
  exact ⟨pb, F, h1, h2, hb.trans (h3.mono hb.size), h4⟩

set_option maxHeartbeats 2000000 in
theorem flush_row (S W L : Int) (a1 : Option Addr) (c1 : Nat) (l1 : List Int) (a2 : Option Addr) (c2 : Nat) (l2 : List Int) (w : World)
    (r1 : ArgI w.heap.size w a1 l1) (y1 : l1.length * 8 ≤ 140737488351232) (i1 : InI l1) (r2 : ArgI w.heap.size w a2 l2) (y2 : l2.length * 8 ≤ 140737488351232) (i2 : InI l2) :
    Calls Try.prog 8 #[.agg #[.int .i64 S, .int .i64 W, .int .i64 L], .slice a1 l1.length c1, .slice a2 l2.length c2] w fun e w' => e = .returned (.bool true) ∧ Below w.heap.size w w' := by
  have HB := Lib.hid ((Below.refl w.heap.size w).alloc (Nat.le_refl _) (.cells #[.int .i64 S, .int .i64 W, .int .i64 L] 23))
  have start : ∀ W1, Below (w.alloc (.cells #[.int .i64 S, .int .i64 W, .int .i64 L] 23)).heap.size (w.alloc (.cells #[.int .i64 S, .int .i64 W, .int .i64 L] 23)) W1 →
      W1.cell? ⟨w.heap.size, 0, none⟩ = some (.int .i64 S) ∧ W1.cell? ⟨w.heap.size, 1, none⟩ = some (.int .i64 W) ∧ W1.cell? ⟨w.heap.size, 2, none⟩ = some (.int .i64 L) ∧ Below w.heap.size w W1 :=
    fun W1 hb => ⟨cell_kept hb (by simp), cell_kept hb (by simp), cell_kept hb (by simp), HB.out.trans (hb.mono (by simp))⟩
  have HST := Lib.hid start
  have R1 := Lib.hid r1
  have R2 := Lib.hid r2
  have I1 := Lib.hid i1
  have I2 := Lib.hid i2
  have HG1 := Lib.hid (fun (w' : World) (h : Below w.heap.size w w') => great_any a1 c1 l1 w' (R1.out.kept h) (by omega))
  have HG2 := Lib.hid (fun (w' : World) (h : Below w.heap.size w w') => great_any a2 c2 l2 w' (R2.out.kept h) (by omega))
  clear start r1 r2 i1 i2
  go_enter Try.func8, Try.ntmps8
  go_wp2_with (first | (go_at_call 11; go_must (refine (awake_any _).mono ?_); rintro e w1 ⟨rfl, hb1⟩; obtain ⟨k0, k1, k2, b1⟩ := HST.out _ hb1; clear hb1))
  by_cases hv : validB S W L = true
  · have HM := Lib.hid (made_yes S W L a1 c1 l1 w1 hv (R1.out.kept b1) (by omega) I1.out)
    have HV := Lib.hid hv
    clear hv
    refine HM.out.mono ?_
    rintro e w2 ⟨pb, F, rfl, hc2, hb2, hf2⟩
    obtain ⟨d0, d1, d2, b2⟩ := keep3 hb2 ⟨k0, k1, k2, b1⟩
    have hlt := World.block_lt_of_cell? w1 _ k0
    have hF2 : ∀ k, F k → w.heap.size < k := fun k hk => by have := hf2 k hk; simp only at hlt; omega
    clear k0 k1 k2 hf2 hb2 b1 HM hlt
    have HC2 := Lib.hid hc2
    have HF2 := Lib.hid hF2
    have B2 := Lib.hid b2
    clear hc2 hF2
    go_wp2_with fail
    refine (HG1.out _ B2.out).mono ?_
    rintro e w2 ⟨rfl, rfl⟩
    by_cases g1 : greatB l1 = true
    · go_wp2_with fail
      go_ret
      exact ⟨rfl, B2.out⟩
    have g1' : greatB l1 = false := Bool.eq_false_iff.2 g1
    clear g1
    go_wp2_with fail
    refine (HG2.out _ B2.out).mono ?_
    rintro e w2 ⟨rfl, rfl⟩
    by_cases g2 : greatB l2 = true
    · go_wp2_with fail
      go_ret
      exact ⟨rfl, B2.out⟩
    have g2' : greatB l2 = false := Bool.eq_false_iff.2 g2
    clear g2
    go_wp2_with fail
    have hlt2 := World.block_lt_of_cell? w2 _ d0
    simp only at hlt2
    refine (clone_c HC2.out HV.out).mono ?_
    rintro e w3 ⟨pc, G, rfl, hc3, hb3, hg3⟩
    have HX3 := Lib.hid (HC2.out.below hb3)
    have HLF := Lib.hid HC2.out.lt
    have HC3 := Lib.hid hc3
    have HG3 := Lib.hid hg3
    have K3 := Lib.hid (keep3 hb3 ⟨d0, d1, d2, B2.out⟩)
    have hs3 := hb3.size
    clear d0 d1 d2 hc3 hb3 hg3
    go_wp2_with fail
    refine (flush_c HC3.out HV.out).mono ?_
    rintro e w4 ⟨rfl, G4, hc4, hg4, ho4⟩
    have HX4 := Lib.hid (HX3.out.kept hg4 (fun k hk hk' => by have := HLF.out k hk; have := HG3.out k hk'; omega))
    have HC4 := Lib.hid hc4
    have HG4 := Lib.hid (show ∀ k, G4 k → w2.heap.size ≤ k from fun k hk => by rcases ho4 k hk with h | h; exact HG3.out k h; omega)
    have K4 := Lib.hid (keepC hg4 (fun k hk => by have := HG3.out k hk; omega) K3.out)
    have hs4 := hg4.size
    clear hc4 hg4 ho4
    go_wp2_with fail
    refine (misses_any HX4.out HV.out a2 c2 l2 (R2.out.kept K4.out.2.2.2) (fun k hk => by have := HF2.out k hk; omega) (by omega) I2.out).mono ?_
    rintro e w5 ⟨rfl, F5, hc5, hg5, ho5⟩
    have HC5 := Lib.hid (HC4.out.kept hg5 (fun k hk hk' => by have := HLF.out k hk'; have := HG4.out k hk; omega))
    have K5 := Lib.hid (keepC hg5 HF2.out K4.out)
    have hs5 := hg5.size
    clear hc5 hg5 ho5
    have hle1 := missC_le S W L (runC S W L (emptyC S) l1) l2
    have hle2 := missC_le S W L (emptyC S) l2
    have HLAW := Lib.hid (flush_law HV.out l1 l2)
    generalize (missC S W L (runC S W L (emptyC S) l1) l2).1 = na at *
    go_wp2_with fail
    refine (misses_any HC5.out HV.out a2 c2 l2 (R2.out.kept K5.out.2.2.2) (fun k hk => by have := HG4.out k hk; omega) (by omega) I2.out).mono ?_
    rintro e w6 ⟨rfl, F6, hc6, hg6, ho6⟩
    obtain ⟨f0, f1, f2, b6⟩ := keepC hg6 (fun k hk => by have := HG4.out k hk; omega) K5.out
    clear hc6 hg6 ho6
    unfold emptyC at hle2 HLAW
    generalize (missC S W L (List.replicate S.toNat []) l2).1 = nb at *
    obtain ⟨P, hP⟩ : ∃ P : Int, S * W = P := ⟨_, rfl⟩
    have hPb : 0 ≤ P ∧ P ≤ 512 := by
      obtain ⟨s1, s2, w1, w2, _, _⟩ := validB_range HV.out
      rw [← hP]
      refine ⟨Int.mul_nonneg (by omega) (by omega), ?_⟩
      have := Int.mul_le_mul s2 w2 (by omega) (by omega)
      omega
    obtain ⟨p0, p1⟩ := hPb
    have hmul : wrap64 (S * W) = P := by rw [hP]; unfold wrap64; omega
    obtain ⟨law1, law2⟩ := HLAW.out
    rw [hP] at law2
    clear hP
    have hge : decide ((na : Int) ≤ (nb : Int)) = true := decide_eq_true (by omega)
    go_wp2_with fail
    all_goals go_ret
    all_goals exact ⟨ret_bool (by simp), b6⟩
  · have HM := Lib.hid (made_no S W L (.slice a1 l1.length c1) w1 (Bool.eq_false_iff.2 hv))
    clear hv
    refine HM.out.mono ?_
    rintro e w2 ⟨rfl, hb2⟩
    have hbb := b1.trans (hb2.mono b1.size)
    have HBB := Lib.hid hbb
    clear hb2 hbb
    go_wp2_with fail
    refine (HG1.out _ HBB.out).mono ?_
    rintro e w2 ⟨rfl, rfl⟩
    go_wp2_with fail
    · go_ret
      exact ⟨rfl, HBB.out⟩
    · refine (HG2.out _ HBB.out).mono ?_
      rintro e w2 ⟨rfl, rfl⟩
      go_wp2_with fail
      all_goals go_ret
      all_goals exact ⟨rfl, HBB.out⟩

end Go.Proofs.Ytgpakmcboppfhaa
