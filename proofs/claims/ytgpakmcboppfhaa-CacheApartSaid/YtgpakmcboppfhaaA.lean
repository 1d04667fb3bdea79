/- The leaf functions of package cache (power, Valid, Line, Set): what each call returns; what was there before it stands. -/
import Derived.Test.YtgpakmcboppfhaaProg
import Derived.WalkKit
import Derived.WalkSpells
import Derived.KernelRfl
import Derived.Lib.Hide
namespace Go.Proofs.Ytgpakmcboppfhaa
set_option linter.unusedVariables false
set_option linter.unusedSimpArgs false
open Go.RowKit

theorem ret_bool {a b : Bool} (h : a = b) : Ending.returned (.bool a) = .returned (.bool b) := by rw [h]
theorem ret_int {k : IntKind} {a b : Int} (h : a = b) : Ending.returned (.int k a) = .returned (.int k b) := by rw [h]

theorem bcell {W w1 : World} (hb : Below W.heap.size W w1) : (∀ b o, b < W.heap.size → w1.cell? ⟨b, o, none⟩ = W.cell? ⟨b, o, none⟩) ∧ (∀ b o, b < W.heap.size → w1.frozen? ⟨b, o, none⟩ = W.frozen? ⟨b, o, none⟩) :=
  ⟨fun b o h => hb.cell (p := ⟨b, o, none⟩) h, fun b o h => hb.frozen (p := ⟨b, o, none⟩) h⟩

def powB (n most : Int) : Bool := decide (1 ≤ n) && (decide (n ≤ most) && ((Go.bits .and .i64 n (wrap64 (n - 1))) == 0))
def validB (S W L : Int) : Bool := powB S 64 && (decide (1 ≤ W) && (decide (W ≤ 8) && powB L 16))
def lineI (S W L a : Int) : Int := if validB S W L = true ∧ 0 ≤ a then a / L else -1
def setI (S W L l : Int) : Int := if validB S W L = true ∧ 0 ≤ l then l % S else -1

theorem powB_range {n m : Int} (h : powB n m = true) : 1 ≤ n ∧ n ≤ m := by
  unfold powB at h
  simp only [Bool.and_eq_true, decide_eq_true_eq] at h
  exact ⟨h.1, h.2.1⟩

theorem validB_range {S W L : Int} (h : validB S W L = true) : 1 ≤ S ∧ S ≤ 64 ∧ 1 ≤ W ∧ W ≤ 8 ∧ 1 ≤ L ∧ L ≤ 16 := by
  unfold validB at h
  simp only [Bool.and_eq_true, decide_eq_true_eq] at h
  have a := powB_range h.1
  have b := powB_range h.2.2.2
  exact ⟨a.1, a.2, h.2.1, h.2.2.1, b.1, b.2⟩

set_option maxHeartbeats 400000 in
theorem power_any (n most : Int) (w : World) :
    Calls Try.prog 32 #[.int .i64 n, .int .i64 most] w fun e w' => e = .returned (.bool (powB n most)) ∧ w = w' := by
  unfold powB
  by_cases h1 : 1 ≤ n
  · by_cases h2 : n ≤ most
    · go_enter Try.func32, Try.ntmps32
      go_wp2
      go_ret
      exact ⟨by simp [h1, h2], rfl⟩
    · go_enter Try.func32, Try.ntmps32
      go_wp2
      go_ret
      exact ⟨ret_bool (by simp only [show ¬ n ≤ most by omega, decide_false, Bool.false_and, Bool.and_false]), rfl⟩
  · go_enter Try.func32, Try.ntmps32
    go_wp2
    go_ret
    exact ⟨ret_bool (by simp only [show ¬ 1 ≤ n by omega, decide_false, Bool.false_and]), rfl⟩

set_option maxHeartbeats 400000 in
theorem valid_any (S W L : Int) (w : World) :
    Calls Try.prog 14 #[.agg #[.int .i64 S, .int .i64 W, .int .i64 L]] w fun e w' => e = .returned (.bool (validB S W L)) ∧ Below w.heap.size w w' := by
  go_enter Try.func14, Try.ntmps14
  go_wp2_with (first | (go_at_call 32; refine (power_any _ _ _).mono ?_; rintro e w' ⟨rfl, rfl⟩))
  · go_ret
    exact ⟨ret_bool (by unfold validB; simp only [*, decide_true, Bool.true_and]), (Below.refl _ _).alloc (Nat.le_refl _) _⟩
  · go_ret
    exact ⟨ret_bool (by unfold validB; rw [show decide (W ≤ 8) = false from decide_eq_false (by omega)]; simp only [Bool.false_and, Bool.and_false]), (Below.refl _ _).alloc (Nat.le_refl _) _⟩
  · go_ret
    exact ⟨ret_bool (by unfold validB; rw [show decide (1 ≤ W) = false from decide_eq_false (by omega)]; simp only [Bool.false_and, Bool.and_false]), (Below.refl _ _).alloc (Nat.le_refl _) _⟩
  · go_ret
    have h : powB S 64 = false := Bool.eq_false_iff.2 (by assumption)
    exact ⟨ret_bool (by unfold validB; rw [h]; rfl), (Below.refl _ _).alloc (Nat.le_refl _) _⟩

set_option maxHeartbeats 400000 in
theorem line_any (S W L a : Int) (w : World) (ha : a ≤ 9223372036854775807) :
    Calls Try.prog 15 #[.agg #[.int .i64 S, .int .i64 W, .int .i64 L], .int .i64 a] w fun e w' => e = .returned (.int .i64 (lineI S W L a)) ∧ Below w.heap.size w w' := by
  have hbase := (Below.refl w.heap.size w).alloc (Nat.le_refl _) (.cells #[.int .i64 S, .int .i64 W, .int .i64 L] 23)
  have HB := Lib.hid hbase
  clear hbase
  by_cases hv : validB S W L = true
  · obtain ⟨s1, s2, l1, l2, l3, l4⟩ := validB_range hv
    by_cases h0 : 0 ≤ a
    · have hfin : lineI S W L a = a / L := if_pos ⟨hv, h0⟩
      have HF := Lib.hid hfin
      clear hfin
      go_enter Try.func15, Try.ntmps15
      go_wp2_with (first | (go_at_call 14; refine (valid_any _ _ _ _).mono ?_; rintro e w1 ⟨rfl, hb1⟩; obtain ⟨hc1, hf1⟩ := bcell hb1))
      go_ret
      exact ⟨ret_int (by rw [HF.out]), HB.out.trans (hb1.mono (by simp))⟩
    · have hfin : lineI S W L a = -1 := if_neg (fun h => h0 h.2)
      have HF := Lib.hid hfin
      clear hfin
      go_enter Try.func15, Try.ntmps15
      go_wp2_with (first | (go_at_call 14; refine (valid_any _ _ _ _).mono ?_; rintro e w1 ⟨rfl, hb1⟩; obtain ⟨hc1, hf1⟩ := bcell hb1))
      go_ret
      exact ⟨ret_int (by rw [HF.out]), HB.out.trans (hb1.mono (by simp))⟩
  · have hv' : validB S W L = false := Bool.eq_false_iff.2 hv
    have hfin : lineI S W L a = -1 := if_neg (fun h => hv h.1)
    have HF := Lib.hid hfin
    clear hfin hv
    go_enter Try.func15, Try.ntmps15
    go_wp2_with (first | (go_at_call 14; refine (valid_any _ _ _ _).mono ?_; rintro e w1 ⟨rfl, hb1⟩; obtain ⟨hc1, hf1⟩ := bcell hb1))
    go_ret
    exact ⟨ret_int (by rw [HF.out]), HB.out.trans (hb1.mono (by simp))⟩

set_option maxHeartbeats 400000 in
theorem set_any (S W L a : Int) (w : World) (ha : a ≤ 9223372036854775807) :
    Calls Try.prog 17 #[.agg #[.int .i64 S, .int .i64 W, .int .i64 L], .int .i64 a] w fun e w' => e = .returned (.int .i64 (setI S W L a)) ∧ Below w.heap.size w w' := by
  have hbase := (Below.refl w.heap.size w).alloc (Nat.le_refl _) (.cells #[.int .i64 S, .int .i64 W, .int .i64 L] 23)
  have HB := Lib.hid hbase
  clear hbase
  by_cases hv : validB S W L = true
  · obtain ⟨s1, s2, l1, l2, l3, l4⟩ := validB_range hv
    by_cases h0 : 0 ≤ a
    · have hfin : setI S W L a = a % S := if_pos ⟨hv, h0⟩
      have HF := Lib.hid hfin
      clear hfin
      go_enter Try.func17, Try.ntmps17
      go_wp2_with (first | (go_at_call 14; refine (valid_any _ _ _ _).mono ?_; rintro e w1 ⟨rfl, hb1⟩; obtain ⟨hc1, hf1⟩ := bcell hb1))
      go_ret
      exact ⟨ret_int (by rw [HF.out]), HB.out.trans (hb1.mono (by simp))⟩
    · have hfin : setI S W L a = -1 := if_neg (fun h => h0 h.2)
      have HF := Lib.hid hfin
      clear hfin
      go_enter Try.func17, Try.ntmps17
      go_wp2_with (first | (go_at_call 14; refine (valid_any _ _ _ _).mono ?_; rintro e w1 ⟨rfl, hb1⟩; obtain ⟨hc1, hf1⟩ := bcell hb1))
      go_ret
      exact ⟨ret_int (by rw [HF.out]), HB.out.trans (hb1.mono (by simp))⟩
  · have hv' : validB S W L = false := Bool.eq_false_iff.2 hv
    have hfin : setI S W L a = -1 := if_neg (fun h => hv h.1)
    have HF := Lib.hid hfin
    clear hfin hv
    go_enter Try.func17, Try.ntmps17
    go_wp2_with (first | (go_at_call 14; refine (valid_any _ _ _ _).mono ?_; rintro e w1 ⟨rfl, hb1⟩; obtain ⟨hc1, hf1⟩ := bcell hb1))
    go_ret
    exact ⟨ret_int (by rw [HF.out]), HB.out.trans (hb1.mono (by simp))⟩

end Go.Proofs.Ytgpakmcboppfhaa
