/- The plain laws, said of the sets of a cache: flush, inclusion. -/
import Derived.Test.YtgpakmcboppfhaaH
import Derived.Test.YtgpakmcboppfhaaP
namespace Go.Proofs.Ytgpakmcboppfhaa
set_option linter.unusedVariables false
set_option linter.unusedSimpArgs false
open Go.RowKit

theorem stepS_lru (W : Int) (xs : List Int) (l : Int) : stepS W xs l = lru W.toNat xs l := rfl

theorem nthSet_at {S W L : Int} {xs : List (List Int)} (hv : validB S W L = true) (hl : (xs.length : Int) = S) (l : Int) : xs[setN S l]? = some (nthSet xs (setN S l)) := by
  have := setN_lt l hv
  unfold nthSet
  rw [List.getElem?_eq_getElem (by omega), List.getD_eq_getElem?_getD, List.getElem?_eq_getElem (by omega)]
  rfl

/-- p: the misses and the sets without the flushes; q: with them; extra: what the flushes may have cost. -/
structure FInv (S W : Int) (extra : Nat) (p q : Nat × List (List Int)) : Prop where
  more : p.1 ≤ q.1
  count : (p.2.length : Int) = S
  under : Under W.toNat q.2 p.2
  room : q.1 + total p.2 ≤ p.1 + total q.2 + extra

theorem missA_val (S W L : Int) (p : Nat × List (List Int)) (a : Int) (h0 : 0 ≤ a) :
    missA S W L p a = (p.1 + (if a / L ∈ nthSet p.2 (setN S (a / L)) then 0 else 1), p.2.set (setN S (a / L)) (lru W.toNat (nthSet p.2 (setN S (a / L))) (a / L))) := by
  unfold missA hitC
  rw [if_neg (by omega)]
  by_cases hm : a / L ∈ nthSet p.2 (setN S (a / L))
  · rw [if_pos hm, if_pos (List.contains_iff_mem.2 hm)]; rfl
  · rw [if_neg hm, if_neg (fun h => hm (List.contains_iff_mem.1 h))]; rfl

theorem FInv.step {S W L : Int} {extra : Nat} {p q : Nat × List (List Int)} (h : FInv S W extra p q) (hv : validB S W L = true) (a : Int) : FInv S W extra (missA S W L p a) (missA S W L q a) := by
  by_cases h0 : 0 ≤ a
  · have hq : (q.2.length : Int) = S := by rw [h.under.same]; exact h.count
    obtain ⟨u1, u2, u3⟩ := h.under.step (nthSet_at hv hq (a / L)) (nthSet_at hv h.count (a / L)) (a / L)
    rw [missA_val _ _ _ p a h0, missA_val _ _ _ q a h0]
    refine ⟨?_, by rw [List.length_set]; exact h.count, u1, ?_⟩
    · have := h.more
      show p.1 + _ ≤ q.1 + _
      by_cases hy : a / L ∈ nthSet q.2 (setN S (a / L))
      · rw [if_pos (u2 hy), if_pos hy]; omega
      · rw [if_neg hy]; split <;> omega
    · have := h.room
      show q.1 + _ + total (p.2.set _ _) ≤ p.1 + _ + total (q.2.set _ _) + extra
      omega
  · have e : ∀ r, missA S W L r a = r := fun r => by unfold missA; rw [if_pos (by omega)]
    rw [e, e]; exact h

theorem FInv.foldl {S W L : Int} {extra : Nat} (hv : validB S W L = true) : ∀ (l : List Int) (p q : Nat × List (List Int)), FInv S W extra p q → FInv S W extra (l.foldl (missA S W L) p) (l.foldl (missA S W L) q)
  | [], _, _, h => h
  | a :: l, p, q, h => FInv.foldl hv l _ _ (h.step hv a)

theorem room_all {S W L : Int} {xs : List (List Int)} (hv : validB S W L = true) (hl : (xs.length : Int) = S) (hs : ∀ x ∈ xs, x.length ≤ W.toNat) : (total xs : Int) ≤ S * W := by
  have h1 := total_le xs W.toNat hs
  obtain ⟨_, _, w1, _⟩ := validB_range hv
  have h2 : ((total xs : Nat) : Int) ≤ ((xs.length * W.toNat : Nat) : Int) := Int.ofNat_le.2 h1
  rw [Int.natCast_mul, hl, Int.toNat_of_nonneg (by omega)] at h2
  exact h2

theorem FInv.flush {S W L : Int} {extra : Nat} {p q : Nat × List (List Int)} (h : FInv S W extra p q) (hv : validB S W L = true) : FInv S W (extra + (S * W).toNat) p (q.1, emptyC S) := by
  have hc := h.count
  have e : emptyC S = List.replicate p.2.length [] := by unfold emptyC; congr 1; omega
  have hr := room_all hv h.count h.under.short
  have h1 := h.room
  have h2 := h.under.total_le
  refine ⟨h.more, h.count, by rw [e]; exact Under.empty h.under.short, ?_⟩
  show q.1 + total p.2 ≤ p.1 + total (emptyC S) + (extra + (S * W).toNat)
  rw [e, total_empty]
  omega

theorem FInv.ends {S W : Int} {extra : Nat} {p q : Nat × List (List Int)} (h : FInv S W extra p q) : p.1 ≤ q.1 ∧ q.1 ≤ p.1 + extra := by
  have := h.room
  have := h.under.total_le
  exact ⟨h.more, by omega⟩

theorem empty_short (S W : Int) : ∀ x ∈ emptyC S, x.length ≤ W.toNat := by
  intro x hx
  rw [List.eq_of_mem_replicate hx]; exact Nat.zero_le _
theorem empty_count {S W L : Int} (hv : validB S W L = true) : ((emptyC S).length : Int) = S := by
  have := (validB_range hv).1
  unfold emptyC; rw [List.length_replicate]; omega

theorem FInv.begins {S W L : Int} (hv : validB S W L = true) : FInv S W 0 (0, emptyC S) (0, emptyC S) :=
  ⟨Nat.le_refl _, empty_count hv, Under.refl (empty_short S W), Nat.le_refl _⟩

theorem stepC_short {S W L : Int} {xs : List (List Int)} (a : Int) (h : ∀ x ∈ xs, x.length ≤ W.toNat) : ∀ x ∈ stepA S W L xs a, x.length ≤ W.toNat := by
  unfold stepA
  split
  · exact h
  · exact mem_set_short h (lru_len _ _ _)
theorem runC_short {S W L : Int} : ∀ (l : List Int) {xs : List (List Int)}, (∀ x ∈ xs, x.length ≤ W.toNat) → ∀ x ∈ runC S W L xs l, x.length ≤ W.toNat
  | [], _, h => h
  | a :: l, _, h => runC_short l (stepC_short a h)
theorem stepA_count {S W L : Int} {xs : List (List Int)} (a : Int) : (stepA S W L xs a).length = xs.length := by
  unfold stepA stepC
  split
  · rfl
  · rw [List.length_set]
theorem runC_count {S W L : Int} : ∀ (l : List Int) {xs : List (List Int)}, (runC S W L xs l).length = xs.length
  | [], _ => rfl
  | a :: l, xs => by
    show (runC S W L (stepA S W L xs a) l).length = _
    rw [runC_count l, stepA_count]

/-- The flush lemma. -/
theorem flush_law {S W L : Int} (hv : validB S W L = true) (before after : List Int) :
    (missC S W L (runC S W L (emptyC S) before) after).1 ≤ (missC S W L (emptyC S) after).1 ∧
      ((missC S W L (emptyC S) after).1 : Int) ≤ (missC S W L (runC S W L (emptyC S) before) after).1 + S * W := by
  have hs := runC_short (S := S) (W := W) (L := L) before (empty_short S W)
  have hc : ((runC S W L (emptyC S) before).length : Int) = S := by rw [runC_count]; exact empty_count hv
  have h0 : FInv S W 0 (0, runC S W L (emptyC S) before) (0, runC S W L (emptyC S) before) := ⟨Nat.le_refl _, hc, Under.refl hs, Nat.le_refl _⟩
  have h1 := FInv.foldl hv after _ _ (h0.flush hv)
  obtain ⟨a, b⟩ := h1.ends
  refine ⟨a, ?_⟩
  obtain ⟨s1, _, w1, _⟩ := validB_range hv
  have : 0 ≤ S * W := Int.mul_nonneg (by omega) (by omega)
  simp only [missC] at *
  omega

/-! ### k flushes at any points -/
/-- The flushes at point i: how many so far, and the sets. -/
def flA (S : Int) (i : Nat) (s : Nat × List (List Int)) (p : Int) : Nat × List (List Int) := if p = (i : Int) then (s.1 + 1, emptyC S) else s
/-- After the first i accesses: the flushes, and (misses, sets). -/
def flRun (S W L : Int) (l at' : List Int) : Nat → Nat × (Nat × List (List Int))
  | 0 => (0, (0, emptyC S))
  | i + 1 =>
    let s := flRun S W L l at' i
    let f := at'.foldl (flA S i) (s.1, s.2.2)
    (f.1, missA S W L (s.2.1, f.2) (l.getD i 0))

theorem flA_inv {S W L : Int} (hv : validB S W L = true) {p : Nat × List (List Int)} {m : Nat} (i : Nat) : ∀ (at' : List Int) (s : Nat × List (List Int)), FInv S W (s.1 * (S * W).toNat) p (m, s.2) →
    FInv S W ((at'.foldl (flA S i) s).1 * (S * W).toNat) p (m, (at'.foldl (flA S i) s).2)
  | [], s, h => h
  | x :: at', s, h => by
    refine flA_inv hv i at' _ ?_
    unfold flA
    split
    · have := h.flush hv
      show FInv S W ((s.1 + 1) * (S * W).toNat) p (m, emptyC S)
      rw [Nat.add_mul, Nat.one_mul]; exact this
    · exact h

theorem flRun_inv {S W L : Int} (hv : validB S W L = true) (l at' : List Int) : ∀ i, i ≤ l.length → FInv S W ((flRun S W L l at' i).1 * (S * W).toNat) (missC S W L (emptyC S) (l.take i)) (flRun S W L l at' i).2
  | 0, _ => by simpa [flRun, missC] using FInv.begins hv
  | i + 1, hi => by
    have ih := flRun_inv hv l at' i (by omega)
    have := foldl_take_succ (missA S W L) (0, emptyC S) l 0 i (by omega)
    unfold missC at *
    rw [this]
    exact (flA_inv hv i at' ((flRun S W L l at' i).1, (flRun S W L l at' i).2.2) ih).step hv _

theorem flushes_law {S W L : Int} (hv : validB S W L = true) (l at' : List Int) :
    (missC S W L (emptyC S) l).1 ≤ (flRun S W L l at' l.length).2.1 ∧ ((flRun S W L l at' l.length).2.1 : Int) ≤ (missC S W L (emptyC S) l).1 + (flRun S W L l at' l.length).1 * S * W := by
  have h := flRun_inv hv l at' l.length (Nat.le_refl _)
  rw [List.take_length] at h
  obtain ⟨a, b⟩ := h.ends
  refine ⟨a, ?_⟩
  obtain ⟨s1, _, w1, _⟩ := validB_range hv
  have h2 : 0 ≤ S * W := Int.mul_nonneg (by omega) (by omega)
  have h3 : (((flRun S W L l at' l.length).1 * (S * W).toNat : Nat) : Int) = (flRun S W L l at' l.length).1 * S * W := by
    rw [Int.natCast_mul, Int.toNat_of_nonneg h2, Int.mul_assoc]
  omega

end Go.Proofs.Ytgpakmcboppfhaa
