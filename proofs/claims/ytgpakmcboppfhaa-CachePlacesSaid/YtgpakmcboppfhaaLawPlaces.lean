/- CachePlaces returns true for every geometry, address and line. -/
import Derived.Test.YtgpakmcboppfhaaK
import Derived.Test.YtgpakmcboppfhaaR
namespace Go.Proofs.Ytgpakmcboppfhaa
set_option linter.unusedVariables false
set_option linter.unusedSimpArgs false
open Go.RowKit

set_option maxHeartbeats 2000000 in
theorem places_true (S W L addr line : Int) (w : World) (ha : addr ≤ 9223372036854775807) (hl : line ≤ 9223372036854775807) :
    Calls Try.prog 3 #[.agg #[.int .i64 S, .int .i64 W, .int .i64 L], .int .i64 addr, .int .i64 line] w fun e w' => e = .returned (.bool true) ∧ Below w.heap.size w w' := by
  have HB := Lib.hid ((Below.refl w.heap.size w).alloc (Nat.le_refl _) (.cells #[.int .i64 S, .int .i64 W, .int .i64 L] 23))
  have start : ∀ W1, Below (w.alloc (.cells #[.int .i64 S, .int .i64 W, .int .i64 L] 23)).heap.size (w.alloc (.cells #[.int .i64 S, .int .i64 W, .int .i64 L] 23)) W1 →
      W1.cell? ⟨w.heap.size, 0, none⟩ = some (.int .i64 S) ∧ W1.cell? ⟨w.heap.size, 1, none⟩ = some (.int .i64 W) ∧ W1.cell? ⟨w.heap.size, 2, none⟩ = some (.int .i64 L) ∧ Below w.heap.size w W1 :=
    fun W1 hb => ⟨cell_kept hb (by simp), cell_kept hb (by simp), cell_kept hb (by simp), HB.out.trans (hb.mono (by simp))⟩
  have HST := Lib.hid start
  clear start
  go_enter Try.func3, Try.ntmps3
  go_wp2_with (first | (go_at_call 11; go_must (refine (awake_any _).mono ?_); rintro e w1 ⟨rfl, hb1⟩; obtain ⟨c0, c1, c2, b1⟩ := HST.out _ hb1; clear hb1))
  by_cases hv : validB S W L = true
  · have HNEW := Lib.hid (fun w => new_yes S W L w hv)
    have HV := Lib.hid (fun w => (hv ▸ valid_any S W L w : Calls Try.prog 14 #[.agg #[.int .i64 S, .int .i64 W, .int .i64 L]] w fun e w' => e = .returned (.bool true) ∧ Below w.heap.size w w'))
    have HRV := Lib.hid (fun w => (hv ▸ rvalid_any S W L w : Calls Try.prog 13 #[.agg #[.int .i64 S, .int .i64 W, .int .i64 L]] w fun e w' => e = .returned (.bool true) ∧ Below w.heap.size w w'))
    clear hv
    go_wp2_with fail
    refine (HNEW.out _).mono ?_
    rintro e w2 ⟨pb, F, rfl, _, hb2, _⟩
    obtain ⟨d0, d1, d2, b2⟩ := keep3 hb2 ⟨c0, c1, c2, b1⟩
    clear c0 c1 c2 b1 hb2
    go_wp2_with (first | (go_at_call 13; go_must (refine (HRV.out _).mono ?_); rintro e w3 ⟨rfl, hb3⟩; obtain ⟨e0, e1, e2, b3⟩ := keep3 hb3 ⟨d0, d1, d2, b2⟩; clear d0 d1 d2 b2 hb3))
    refine (HV.out _).mono ?_
    rintro e w4 ⟨rfl, hb4⟩
    obtain ⟨f0, f1, f2, b4⟩ := keep3 hb4 ⟨e0, e1, e2, b3⟩
    clear e0 e1 e2 b3 hb4
    go_wp2_with fail
    obtain ⟨xl, hxl⟩ : ∃ x, lineI S W L addr = x := ⟨_, rfl⟩
    obtain ⟨xs, hxs⟩ : ∃ x, setI S W L line = x := ⟨_, rfl⟩
    have L1 := Lib.hid (fun w => (hxl ▸ line_any S W L addr w ha : Calls Try.prog 15 #[.agg #[.int .i64 S, .int .i64 W, .int .i64 L], .int .i64 addr] w fun e w' => e = .returned (.int .i64 xl) ∧ Below w.heap.size w w'))
    have L2 := Lib.hid (fun w => (hxl ▸ rline_any S W L addr w ha : Calls Try.prog 16 #[.agg #[.int .i64 S, .int .i64 W, .int .i64 L], .int .i64 addr] w fun e w' => e = .returned (.int .i64 xl) ∧ Below w.heap.size w w'))
    have L3 := Lib.hid (fun w => (hxs ▸ set_any S W L line w hl : Calls Try.prog 17 #[.agg #[.int .i64 S, .int .i64 W, .int .i64 L], .int .i64 line] w fun e w' => e = .returned (.int .i64 xs) ∧ Below w.heap.size w w'))
    have L4 := Lib.hid (fun w => (hxs ▸ rset_any S W L line w hl : Calls Try.prog 18 #[.agg #[.int .i64 S, .int .i64 W, .int .i64 L], .int .i64 line] w fun e w' => e = .returned (.int .i64 xs) ∧ Below w.heap.size w w'))
    clear hxl hxs
    go_region_held3 (fun w' => w'.cell? ⟨w.heap.size, 0, none⟩ = some (.int .i64 S) ∧ w'.cell? ⟨w.heap.size, 1, none⟩ = some (.int .i64 W) ∧ w'.cell? ⟨w.heap.size, 2, none⟩ = some (.int .i64 L) ∧ Below w.heap.size w w')
      (first | exact ⟨f0, f1, f2, b4.drew⟩ | assumption | exact keep3 ‹Below _ _ _› (by assumption))
      (first | (go_at_call 15; refine (L1.out _).mono ?_; rintro e w1 ⟨rfl, hb1⟩) | (go_at_call 16; refine (L2.out _).mono ?_; rintro e w1 ⟨rfl, hb1⟩) | (go_at_call 17; refine (L3.out _).mono ?_; rintro e w1 ⟨rfl, hb1⟩) | (go_at_call 18; refine (L4.out _).mono ?_; rintro e w1 ⟨rfl, hb1⟩))
    all_goals go_wp2_with fail
    all_goals go_ret
    all_goals exact ⟨rfl, by obtain ⟨_, _, _, hq⟩ := ‹_ ∧ _ ∧ _ ∧ Below w.heap.size w _›; exact hq⟩
  · have hv' : validB S W L = false := Bool.eq_false_iff.2 hv
    have HNEW := Lib.hid (fun w => new_no S W L w hv')
    have HV := Lib.hid (fun w => (hv' ▸ valid_any S W L w : Calls Try.prog 14 #[.agg #[.int .i64 S, .int .i64 W, .int .i64 L]] w fun e w' => e = .returned (.bool false) ∧ Below w.heap.size w w'))
    have HRV := Lib.hid (fun w => (hv' ▸ rvalid_any S W L w : Calls Try.prog 13 #[.agg #[.int .i64 S, .int .i64 W, .int .i64 L]] w fun e w' => e = .returned (.bool false) ∧ Below w.heap.size w w'))
    clear hv hv'
    go_wp2_with fail
    refine (HNEW.out _).mono ?_
    rintro e w2 ⟨rfl, hb2⟩
    obtain ⟨d0, d1, d2, b2⟩ := keep3 hb2 ⟨c0, c1, c2, b1⟩
    clear c0 c1 c2 b1 hb2
    go_wp2_with (first | (go_at_call 13; go_must (refine (HRV.out _).mono ?_); rintro e w3 ⟨rfl, hb3⟩; obtain ⟨e0, e1, e2, b3⟩ := keep3 hb3 ⟨d0, d1, d2, b2⟩; clear d0 d1 d2 b2 hb3))
    refine (HV.out _).mono ?_
    rintro e w4 ⟨rfl, hb4⟩
    obtain ⟨f0, f1, f2, b4⟩ := keep3 hb4 ⟨e0, e1, e2, b3⟩
    clear e0 e1 e2 b3 hb4
    go_wp2_with fail
    obtain ⟨xl, hxl⟩ : ∃ x, lineI S W L addr = x := ⟨_, rfl⟩
    obtain ⟨xs, hxs⟩ : ∃ x, setI S W L line = x := ⟨_, rfl⟩
    have L1 := Lib.hid (fun w => (hxl ▸ line_any S W L addr w ha : Calls Try.prog 15 #[.agg #[.int .i64 S, .int .i64 W, .int .i64 L], .int .i64 addr] w fun e w' => e = .returned (.int .i64 xl) ∧ Below w.heap.size w w'))
    have L2 := Lib.hid (fun w => (hxl ▸ rline_any S W L addr w ha : Calls Try.prog 16 #[.agg #[.int .i64 S, .int .i64 W, .int .i64 L], .int .i64 addr] w fun e w' => e = .returned (.int .i64 xl) ∧ Below w.heap.size w w'))
    have L3 := Lib.hid (fun w => (hxs ▸ set_any S W L line w hl : Calls Try.prog 17 #[.agg #[.int .i64 S, .int .i64 W, .int .i64 L], .int .i64 line] w fun e w' => e = .returned (.int .i64 xs) ∧ Below w.heap.size w w'))
    have L4 := Lib.hid (fun w => (hxs ▸ rset_any S W L line w hl : Calls Try.prog 18 #[.agg #[.int .i64 S, .int .i64 W, .int .i64 L], .int .i64 line] w fun e w' => e = .returned (.int .i64 xs) ∧ Below w.heap.size w w'))
    clear hxl hxs
    go_region_held3 (fun w' => w'.cell? ⟨w.heap.size, 0, none⟩ = some (.int .i64 S) ∧ w'.cell? ⟨w.heap.size, 1, none⟩ = some (.int .i64 W) ∧ w'.cell? ⟨w.heap.size, 2, none⟩ = some (.int .i64 L) ∧ Below w.heap.size w w')
      (first | exact ⟨f0, f1, f2, b4.drew⟩ | assumption | exact keep3 ‹Below _ _ _› (by assumption))
      (first | (go_at_call 15; refine (L1.out _).mono ?_; rintro e w1 ⟨rfl, hb1⟩) | (go_at_call 16; refine (L2.out _).mono ?_; rintro e w1 ⟨rfl, hb1⟩) | (go_at_call 17; refine (L3.out _).mono ?_; rintro e w1 ⟨rfl, hb1⟩) | (go_at_call 18; refine (L4.out _).mono ?_; rintro e w1 ⟨rfl, hb1⟩))
    all_goals go_wp2_with fail
    all_goals go_ret
    all_goals exact ⟨rfl, by obtain ⟨_, _, _, hq⟩ := ‹_ ∧ _ ∧ _ ∧ Below w.heap.size w _›; exact hq⟩

theorem places_row (S W L addr line : Int) (w : World) (ha : -9223372036854775808 ≤ addr ∧ addr ≤ 9223372036854775807) (hl : -9223372036854775808 ≤ line ∧ line ≤ 9223372036854775807) :
    Calls Try.prog 3 #[.agg #[.int .i64 S, .int .i64 W, .int .i64 L], .int .i64 addr, .int .i64 line] w fun e w' => e = .returned (.bool true) ∧ Below w.heap.size w w' := places_true S W L addr line w ha.2 hl.2

end Go.Proofs.Ytgpakmcboppfhaa
