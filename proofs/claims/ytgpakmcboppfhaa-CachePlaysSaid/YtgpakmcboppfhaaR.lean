/- The reference of layer 6: power, Valid, Line and Set tell what package cache tells. -/
import Derived.Test.YtgpakmcboppfhaaA
import Derived.BigQuiet
import Derived.Deep.QuietTactic
import Derived.RegionTactic
import Derived.BigRegion
namespace Go.Proofs.Ytgpakmcboppfhaa
set_option linter.unusedVariables false
set_option linter.unusedSimpArgs false
open Go.RowKit

def pows : List Int := [1, 2, 4, 8, 16, 32, 64]

theorem powB_64_fin : ∀ k : Fin 65, powB (k.val : Int) 64 = pows.contains (k.val : Int) := by decide +kernel
theorem powB_16_fin : ∀ k : Fin 17, powB (k.val : Int) 16 = (pows.take 5).contains (k.val : Int) := by decide +kernel

theorem powB_out {n m : Int} (h : ¬ (1 ≤ n ∧ n ≤ m)) : powB n m = false := by
  apply Bool.eq_false_iff.2
  intro hp
  exact h (powB_range hp)

theorem powB_64 (n : Int) : powB n 64 = pows.contains n := by
  by_cases h : 1 ≤ n ∧ n ≤ 64
  · have := powB_64_fin ⟨n.toNat, by omega⟩
    simpa [Int.toNat_of_nonneg (show 0 ≤ n by omega)] using this
  · rw [powB_out h]
    symm
    apply Bool.eq_false_iff.2
    intro hc
    have hm := List.contains_iff_mem.1 hc
    simp [pows] at hm
    omega
theorem powB_16 (n : Int) : powB n 16 = (pows.take 5).contains n := by
  by_cases h : 1 ≤ n ∧ n ≤ 16
  · have := powB_16_fin ⟨n.toNat, by omega⟩
    simpa [Int.toNat_of_nonneg (show 0 ≤ n by omega)] using this
  · rw [powB_out h]
    symm
    apply Bool.eq_false_iff.2
    intro hc
    have hm := List.contains_iff_mem.1 hc
    simp [pows] at hm
    omega

/-- The numbers that the loop has seen and the one that it looks at. -/
def Seen (n p : Int) (k : Nat) : Prop := p = 2 ^ k ∧ ∀ j, j < k → (2 : Int) ^ j ≠ n

set_option maxHeartbeats 1000000 in
theorem rpower_64 (n : Int) (w : World) : Calls Try.prog 31 #[.int .i64 n, .int .i64 64] w fun e w' => e = .returned (.bool (powB n 64)) ∧ w = w' := by
  have HP := Lib.hid (powB_64 n)
  go_enter Try.func31, Try.ntmps31
  go_wp2_with fail
  go_loop [5] (fun s5 => ∃ (k : Nat) (p : Int), k ≤ 7 ∧ s5 = .int .i64 p ∧ 1 ≤ p ∧ p ≤ 128 ∧ Hid (Seen n p k)) (fun s5 => (200 - intOf s5).toNat)
  case atStart => exact ⟨0, 1, by omega, rfl, by omega, by omega, Lib.hid ⟨rfl, fun j hj => by omega⟩⟩
  case round =>
    obtain ⟨k, p, hk, rfl, hp1, hp2, hs⟩ := hrel
    have hkp : k = 7 ∨ p ≤ 64 := by
      rcases Nat.lt_or_ge k 7 with h | h
      · right
        rw [hs.out.1]
        have := Int.toNat_of_nonneg (show (0 : Int) ≤ 2 ^ k from Int.pow_nonneg (by omega))
        have h2 : (2 : Nat) ^ k ≤ 2 ^ 6 := Nat.pow_le_pow_right (by omega) (by omega)
        have h3 : ((2 : Nat) ^ k : Int) ≤ 64 := by exact_mod_cast h2
        exact_mod_cast h3
      · left; omega
    have HK := Lib.hid hkp
    clear hkp
    by_cases hle : p ≤ 64
    · have hk6 : k ≤ 6 := by
        rcases Nat.lt_or_ge k 7 with h | h
        · omega
        · have : k = 7 := by omega
          have h1 := hs.out.1
          rw [this] at h1
          have : (2 : Int) ^ 7 = 128 := rfl
          omega
      by_cases he : p = n
      · have hb : (p == n) = true := beq_iff_eq.2 he
        have HE := Lib.hid he
        clear he
        go_wp2_with fail
        go_ret
        refine ⟨ret_bool ?_, rfl⟩
        rw [HP.out]
        symm
        apply List.contains_iff_mem.2
        rw [← HE.out, hs.out.1]
        have : ∀ j : Fin 7, (2 : Int) ^ j.val ∈ pows := by decide
        exact this ⟨k, by omega⟩
      · have hb : (p == n) = false := beq_eq_false_iff_ne.2 he
        have HE := Lib.hid he
        clear he
        go_wp2_with fail
        go_round
        case rel =>
          refine ⟨k + 1, 2 * p, by omega, by go_num, by omega, by omega, Lib.hid ⟨by rw [hs.out.1]; rw [Int.pow_succ]; omega, fun j hj => ?_⟩⟩
          rcases Nat.lt_or_ge j k with h | h
          · exact hs.out.2 j h
          · have : j = k := by omega
            rw [this, ← hs.out.1]; exact HE.out
        case measure => simp [intOf]; omega
    · go_wp2_with fail
      go_ret
      refine ⟨ret_bool ?_, rfl⟩
      rw [HP.out]
      symm
      have hk7 : k = 7 := by rcases HK.out with h | h <;> omega
      apply Bool.eq_false_iff.2
      intro hc
      have hm := List.contains_iff_mem.1 hc
      have h2 := hs.out.2
      rw [hk7] at h2
      have e0 := h2 0 (by omega)
      have e1 := h2 1 (by omega)
      have e2 := h2 2 (by omega)
      have e3 := h2 3 (by omega)
      have e4 := h2 4 (by omega)
      have e5 := h2 5 (by omega)
      have e6 := h2 6 (by omega)
      simp [pows] at hm
      simp at e0 e1 e2 e3 e4 e5 e6
      omega

set_option maxHeartbeats 1000000 in
theorem rpower_16 (n : Int) (w : World) : Calls Try.prog 31 #[.int .i64 n, .int .i64 16] w fun e w' => e = .returned (.bool (powB n 16)) ∧ w = w' := by
  have HP := Lib.hid (powB_16 n)
  go_enter Try.func31, Try.ntmps31
  go_wp2_with fail
  go_loop [5] (fun s5 => ∃ (k : Nat) (p : Int), k ≤ 5 ∧ s5 = .int .i64 p ∧ 1 ≤ p ∧ p ≤ 32 ∧ Hid (Seen n p k)) (fun s5 => (200 - intOf s5).toNat)
  case atStart => exact ⟨0, 1, by omega, rfl, by omega, by omega, Lib.hid ⟨rfl, fun j hj => by omega⟩⟩
  case round =>
    obtain ⟨k, p, hk, rfl, hp1, hp2, hs⟩ := hrel
    have hkp : k = 5 ∨ p ≤ 16 := by
      rcases Nat.lt_or_ge k 5 with h | h
      · right
        rw [hs.out.1]
        have := Int.toNat_of_nonneg (show (0 : Int) ≤ 2 ^ k from Int.pow_nonneg (by omega))
        have h2 : (2 : Nat) ^ k ≤ 2 ^ 4 := Nat.pow_le_pow_right (by omega) (by omega)
        have h3 : ((2 : Nat) ^ k : Int) ≤ 16 := by exact_mod_cast h2
        exact_mod_cast h3
      · left; omega
    have HK := Lib.hid hkp
    clear hkp
    by_cases hle : p ≤ 16
    · have hk6 : k ≤ 4 := by
        rcases Nat.lt_or_ge k 5 with h | h
        · omega
        · have : k = 5 := by omega
          have h1 := hs.out.1
          rw [this] at h1
          have : (2 : Int) ^ 5 = 32 := rfl
          omega
      by_cases he : p = n
      · have hb : (p == n) = true := beq_iff_eq.2 he
        have HE := Lib.hid he
        clear he
        go_wp2_with fail
        go_ret
        refine ⟨ret_bool ?_, rfl⟩
        rw [HP.out]
        symm
        apply List.contains_iff_mem.2
        rw [← HE.out, hs.out.1]
        have : ∀ j : Fin 5, (2 : Int) ^ j.val ∈ pows.take 5 := by decide
        exact this ⟨k, by omega⟩
      · have hb : (p == n) = false := beq_eq_false_iff_ne.2 he
        have HE := Lib.hid he
        clear he
        go_wp2_with fail
        go_round
        case rel =>
          refine ⟨k + 1, 2 * p, by omega, by go_num, by omega, by omega, Lib.hid ⟨by rw [hs.out.1]; rw [Int.pow_succ]; omega, fun j hj => ?_⟩⟩
          rcases Nat.lt_or_ge j k with h | h
          · exact hs.out.2 j h
          · have : j = k := by omega
            rw [this, ← hs.out.1]; exact HE.out
        case measure => simp [intOf]; omega
    · go_wp2_with fail
      go_ret
      refine ⟨ret_bool ?_, rfl⟩
      rw [HP.out]
      symm
      have hk7 : k = 5 := by rcases HK.out with h | h <;> omega
      apply Bool.eq_false_iff.2
      intro hc
      have hm := List.contains_iff_mem.1 hc
      have h2 := hs.out.2
      rw [hk7] at h2
      have e0 := h2 0 (by omega)
      have e1 := h2 1 (by omega)
      have e2 := h2 2 (by omega)
      have e3 := h2 3 (by omega)
      have e4 := h2 4 (by omega)
      simp [pows] at hm
      simp at e0 e1 e2 e3 e4
      omega


set_option maxHeartbeats 400000 in
theorem rvalid_any (S W L : Int) (w : World) :
    Calls Try.prog 13 #[.agg #[.int .i64 S, .int .i64 W, .int .i64 L]] w fun e w' => e = .returned (.bool (validB S W L)) ∧ Below w.heap.size w w' := by
  go_enter Try.func13, Try.ntmps13
  go_wp2_with fail
  refine (rpower_64 _ _).mono ?_
  rintro e w' ⟨rfl, rfl⟩
  go_wp2_with fail
  · refine (rpower_16 _ _).mono ?_
    rintro e w' ⟨rfl, rfl⟩
    go_wp2_with fail
    go_ret
    exact ⟨ret_bool (by unfold validB; simp only [*, decide_true, Bool.true_and]), (Below.refl _ _).alloc (Nat.le_refl _) _⟩
  · go_ret
    exact ⟨ret_bool (by unfold validB; rw [show decide (W ≤ 8) = false from decide_eq_false (by omega)]; simp only [Bool.false_and, Bool.and_false]), (Below.refl _ _).alloc (Nat.le_refl _) _⟩
  · go_ret
    exact ⟨ret_bool (by unfold validB; rw [show decide (1 ≤ W) = false from decide_eq_false (by omega)]; simp only [Bool.false_and, Bool.and_false]), (Below.refl _ _).alloc (Nat.le_refl _) _⟩
  · go_ret
    have h : powB S 64 = false := Bool.eq_false_iff.2 (by assumption)
    exact ⟨ret_bool (by unfold validB; rw [h]; rfl), (Below.refl _ _).alloc (Nat.le_refl _) _⟩

set_option maxHeartbeats 1000000 in
theorem rset_any (S W L a : Int) (w : World) (ha : a ≤ 9223372036854775807) :
    Calls Try.prog 18 #[.agg #[.int .i64 S, .int .i64 W, .int .i64 L], .int .i64 a] w fun e w' => e = .returned (.int .i64 (setI S W L a)) ∧ Below w.heap.size w w' := by
  have hbase := (Below.refl w.heap.size w).alloc (Nat.le_refl _) (.cells #[.int .i64 S, .int .i64 W, .int .i64 L] 23)
  have HB := Lib.hid hbase
  clear hbase
  by_cases hv : validB S W L = true
  · obtain ⟨s1, s2, l1, l2, l3, l4⟩ := validB_range hv
    by_cases h0 : 0 ≤ a
    · have hfin : setI S W L a = a % S := if_pos ⟨hv, h0⟩
      have HF := Lib.hid hfin
      clear hfin
      go_enter Try.func18, Try.ntmps18
      go_wp2_with (first | (go_at_call 13; refine (rvalid_any _ _ _ _).mono ?_; rintro e w1 ⟨rfl, hb1⟩; obtain ⟨hc1, hf1⟩ := bcell hb1))
      go_ret
      exact ⟨ret_int (by rw [HF.out]), HB.out.trans (hb1.mono (by simp))⟩
    · have hfin : setI S W L a = -1 := if_neg (fun h => h0 h.2)
      have HF := Lib.hid hfin
      clear hfin
      go_enter Try.func18, Try.ntmps18
      go_wp2_with (first | (go_at_call 13; refine (rvalid_any _ _ _ _).mono ?_; rintro e w1 ⟨rfl, hb1⟩; obtain ⟨hc1, hf1⟩ := bcell hb1))
      go_ret
      exact ⟨ret_int (by rw [HF.out]), HB.out.trans (hb1.mono (by simp))⟩
  · have hv' : validB S W L = false := Bool.eq_false_iff.2 hv
    have hfin : setI S W L a = -1 := if_neg (fun h => hv h.1)
    have HF := Lib.hid hfin
    clear hfin hv
    go_enter Try.func18, Try.ntmps18
    go_wp2_with (first | (go_at_call 13; refine (rvalid_any _ _ _ _).mono ?_; rintro e w1 ⟨rfl, hb1⟩; obtain ⟨hc1, hf1⟩ := bcell hb1))
    go_ret
    exact ⟨ret_int (by rw [HF.out]), HB.out.trans (hb1.mono (by simp))⟩

set_option maxHeartbeats 1000000 in
theorem rline_any (S W L a : Int) (w : World) (ha : a ≤ 9223372036854775807) :
    Calls Try.prog 16 #[.agg #[.int .i64 S, .int .i64 W, .int .i64 L], .int .i64 a] w fun e w' => e = .returned (.int .i64 (lineI S W L a)) ∧ Below w.heap.size w w' := by
  have hbase := (Below.refl w.heap.size w).alloc (Nat.le_refl _) (.cells #[.int .i64 S, .int .i64 W, .int .i64 L] 23)
  have HB := Lib.hid hbase
  clear hbase
  by_cases hv : validB S W L = true
  · obtain ⟨s1, s2, l1, l2, l3, l4⟩ := validB_range hv
    by_cases h0 : 0 ≤ a
    · have hfin : lineI S W L a = a / L := if_pos ⟨hv, h0⟩
      have HF := Lib.hid hfin
      clear hfin
      go_enter Try.func16, Try.ntmps16
      go_wp2_with (first | (go_at_call 13; refine (rvalid_any _ _ _ _).mono ?_; rintro e w1 ⟨rfl, hb1⟩; obtain ⟨hc1, hf1⟩ := bcell hb1))
      have hcl : w1.cell? ⟨w.heap.size, 2, none⟩ = some (.int .i64 L) := by rw [hc1 _ _ (by simp)]; simp
      have hm0 : 0 ≤ a % L := Int.emod_nonneg _ (by omega)
      have hm1 : a % L ≤ a := by have h1 := Int.mul_ediv_add_emod a L; have h2 := Int.mul_nonneg (show 0 ≤ L by omega) (Int.ediv_nonneg h0 (show 0 ≤ L by omega)); omega
      have hdv : (a - a % L) / L = a / L := by
        have h1 := Int.mul_ediv_add_emod a L
        rw [show a - a % L = L * (a / L) by omega]
        exact Int.mul_ediv_cancel_left _ (by omega)
      have HD := Lib.hid hdv
      have HB1 := Lib.hid hb1
      clear hdv hc1 hf1 hb1
      go_quiet (fail)
      go_wp2_with fail
      go_ret
      exact ⟨ret_int (by rw [HF.out, HD.out]), (HB.out.trans (HB1.out.mono (by simp))).trans ⟨rfl, rfl, rfl, Nat.le_refl _, fun _ _ => rfl⟩⟩
    · have hfin : lineI S W L a = -1 := if_neg (fun h => h0 h.2)
      have HF := Lib.hid hfin
      clear hfin
      go_enter Try.func16, Try.ntmps16
      go_wp2_with (first | (go_at_call 13; refine (rvalid_any _ _ _ _).mono ?_; rintro e w1 ⟨rfl, hb1⟩; obtain ⟨hc1, hf1⟩ := bcell hb1))
      go_ret
      exact ⟨ret_int (by rw [HF.out]), HB.out.trans (hb1.mono (by simp))⟩
  · have hv' : validB S W L = false := Bool.eq_false_iff.2 hv
    have hfin : lineI S W L a = -1 := if_neg (fun h => hv h.1)
    have HF := Lib.hid hfin
    clear hfin hv
    go_enter Try.func16, Try.ntmps16
    go_wp2_with (first | (go_at_call 13; refine (rvalid_any _ _ _ _).mono ?_; rintro e w1 ⟨rfl, hb1⟩; obtain ⟨hc1, hf1⟩ := bcell hb1))
    go_ret
    exact ⟨ret_int (by rw [HF.out]), HB.out.trans (hb1.mono (by simp))⟩

end Go.Proofs.Ytgpakmcboppfhaa
