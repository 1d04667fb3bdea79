/- The plain laws of least-recently-used sets: heads, lengths, inclusion. No program. -/
import Derived.WalkKit
namespace Go.Proofs.Ytgpakmcboppfhaa
set_option linter.unusedVariables false
set_option linter.unusedSimpArgs false

/-- One access of line l to a set of n ways. -/
def lru (n : Nat) (xs : List Int) (l : Int) : List Int := (l :: xs.erase l).take n

theorem lru_len (n : Nat) (xs : List Int) (l : Int) : (lru n xs l).length ≤ n := by unfold lru; rw [List.length_take]; omega

theorem prefix_lru {n : Nat} {xs ys : List Int} (l : Int) (h : ys <+: xs) : lru n ys l <+: lru n xs l := by
  obtain ⟨t, rfl⟩ := h
  unfold lru
  have : ∃ t', (ys ++ t).erase l = ys.erase l ++ t' := by
    by_cases hm : l ∈ ys
    · exact ⟨t, by rw [List.erase_append_left _ hm]⟩
    · exact ⟨t.erase l, by rw [List.erase_append_right _ hm, List.erase_of_not_mem hm]⟩
  obtain ⟨t', ht⟩ := this
  rw [ht, ← List.cons_append]
  generalize l :: ys.erase l = A
  rw [List.take_append]
  exact List.prefix_append _ _

theorem lru_len_hit {n : Nat} {xs : List Int} {l : Int} (hn : xs.length ≤ n) (hm : l ∈ xs) : (lru n xs l).length = xs.length := by
  unfold lru
  have := List.length_pos_of_mem hm
  rw [List.length_take, List.length_cons, List.length_erase, if_pos hm]
  omega
theorem lru_len_miss {n : Nat} {xs : List Int} {l : Int} (hm : l ∉ xs) : (lru n xs l).length = min n (xs.length + 1) := by
  unfold lru
  rw [List.length_take, List.length_cons, List.length_erase, if_neg hm]

/-- What one access does to the number of misses and to the room that is left between two sets, one the head of the other. -/
theorem step_room {n : Nat} {xs ys : List Int} (l : Int) (h : ys <+: xs) (hn : xs.length ≤ n) :
    (l ∈ ys → l ∈ xs) ∧ (if l ∈ ys then 0 else 1) + ((lru n xs l).length - (lru n ys l).length) ≤ (if l ∈ xs then 0 else 1) + (xs.length - ys.length) := by
  have hsub : l ∈ ys → l ∈ xs := fun hm => h.subset hm
  refine ⟨hsub, ?_⟩
  have hl := h.length_le
  by_cases hy : l ∈ ys
  · rw [if_pos hy, if_pos (hsub hy), lru_len_hit hn (hsub hy), lru_len_hit (by omega) hy]; exact Nat.le_refl _
  · rw [if_neg hy, lru_len_miss hy]
    by_cases hx : l ∈ xs
    · rw [if_pos hx, lru_len_hit hn hx]
      have : ys.length < xs.length := by
        rcases Nat.lt_or_ge ys.length xs.length with h1 | h1
        · exact h1
        · have := h.eq_of_length (by omega)
          exact absurd (this ▸ hx) hy
      omega
    · rw [if_neg hx, lru_len_miss hx]
      omega

/-- Fewer ways: the first lines of more ways. -/
theorem lru_take {n m : Nat} (hnm : n ≤ m) (ys : List Int) (l : Int) : lru n (ys.take n) l = (lru m ys l).take n := by
  unfold lru
  rw [List.take_take, Nat.min_eq_left hnm]
  cases n with
  | zero => rfl
  | succ n =>
    rw [List.take_succ_cons, List.take_succ_cons]
    congr 1
    clear hnm
    induction ys generalizing n with
    | nil => simp
    | cons y ys ih =>
      by_cases hy : y = l
      · subst hy
        rw [List.take_succ_cons, List.erase_cons_head, List.erase_cons_head, List.take_take, Nat.min_eq_left (by omega)]
      · rw [List.take_succ_cons, List.erase_cons_tail (by simpa using hy), List.erase_cons_tail (by simpa using hy)]
        cases n with
        | zero => rfl
        | succ n => rw [List.take_succ_cons, List.take_succ_cons, ih n]

theorem lru_nodup {n : Nat} {xs : List Int} (l : Int) (h : xs.Nodup) : (lru n xs l).Nodup := by
  unfold lru
  refine List.Sublist.nodup (List.take_sublist _ _) ?_
  rw [List.nodup_cons]
  refine ⟨?_, h.erase l⟩
  intro hm
  rw [List.Nodup.mem_erase_iff h] at hm
  exact hm.1 rfl

theorem lru_mem {n : Nat} {xs : List Int} {l x : Int} (h : x ∈ lru n xs l) : x = l ∨ x ∈ xs := by
  unfold lru at h
  have := List.mem_of_mem_take h
  rcases List.mem_cons.1 this with h | h
  · exact .inl h
  · exact .inr (List.mem_of_mem_erase h)

/-! ### lists of sets -/
def total (ls : List (List Int)) : Nat := (ls.map List.length).sum

theorem total_set : ∀ (ls : List (List Int)) (i : Nat) (x y : List Int), ls[i]? = some x → total (ls.set i y) + x.length = total ls + y.length
  | [], i, x, y, h => by simp at h
  | a :: ls, 0, x, y, h => by
    simp at h; subst h
    simp only [total, List.set_cons_zero, List.map_cons, List.sum_cons]; omega
  | a :: ls, i + 1, x, y, h => by
    have := total_set ls i x y (by simpa using h)
    simp only [total, List.set_cons_succ, List.map_cons, List.sum_cons] at *; omega

theorem total_le (ls : List (List Int)) (n : Nat) (h : ∀ x ∈ ls, x.length ≤ n) : total ls ≤ ls.length * n := by
  induction ls with
  | nil => simp [total]
  | cons a ls ih =>
    have h1 := h a (by simp)
    have h2 := ih (fun x hx => h x (by simp [hx]))
    simp only [total, List.map_cons, List.sum_cons, List.length_cons, Nat.add_mul] at *
    omega
theorem total_empty (k : Nat) : total (List.replicate k []) = 0 := by
  induction k with
  | zero => rfl
  | succ k ih => rw [List.replicate_succ]; simp [total]

/-- Two lists of sets, set by set one the head of the other. -/
structure Under (n : Nat) (ys xs : List (List Int)) : Prop where
  same : ys.length = xs.length
  pre : ∀ (i : Nat) (y x : List Int), ys[i]? = some y → xs[i]? = some x → y <+: x
  short : ∀ x ∈ xs, x.length ≤ n

theorem Under.refl {n : Nat} {xs : List (List Int)} (h : ∀ x ∈ xs, x.length ≤ n) : Under n xs xs :=
  ⟨rfl, fun i y x h1 h2 => by rw [h1] at h2; cases h2; exact List.prefix_refl _, h⟩
theorem Under.empty {n : Nat} {xs : List (List Int)} (h : ∀ x ∈ xs, x.length ≤ n) : Under n (List.replicate xs.length []) xs :=
  ⟨by simp, fun i y x h1 h2 => by rw [List.eq_of_mem_replicate (List.mem_of_getElem? h1)]; exact List.nil_prefix, h⟩

theorem mem_set_short {n : Nat} {xs : List (List Int)} {i : Nat} {z : List Int} (h : ∀ x ∈ xs, x.length ≤ n) (hz : z.length ≤ n) : ∀ x ∈ xs.set i z, x.length ≤ n := by
  intro x hx
  rcases List.mem_or_eq_of_mem_set hx with h1 | h1
  · exact h x h1
  · rw [h1]; exact hz

theorem Under.step {n : Nat} {ys xs : List (List Int)} (h : Under n ys xs) {i : Nat} {y x : List Int} (hy : ys[i]? = some y) (hx : xs[i]? = some x) (l : Int) :
    Under n (ys.set i (lru n y l)) (xs.set i (lru n x l)) ∧ (l ∈ y → l ∈ x) ∧
      (if l ∈ y then 0 else 1) + (total (xs.set i (lru n x l)) + total ys) ≤ (if l ∈ x then 0 else 1) + (total xs + total (ys.set i (lru n y l))) := by
  have hp := h.pre i y x hy hx
  have hs := h.short x (List.mem_of_getElem? hx)
  obtain ⟨h1, h2⟩ := step_room (n := n) l hp hs
  have a := total_set ys i y (lru n y l) hy
  have b := total_set xs i x (lru n x l) hx
  have c := (prefix_lru (n := n) l hp).length_le
  have d := hp.length_le
  refine ⟨⟨by rw [List.length_set, List.length_set]; exact h.same, fun j y' x' hy' hx' => ?_, mem_set_short h.short (lru_len _ _ _)⟩, h1, by omega⟩
  rw [List.getElem?_set] at hy' hx'
  by_cases hij : i = j
  · subst hij
    rw [if_pos rfl, if_pos (List.getElem?_eq_some_iff.1 hy).1] at hy'
    rw [if_pos rfl, if_pos (List.getElem?_eq_some_iff.1 hx).1] at hx'
    cases hy'; cases hx'
    exact prefix_lru l hp
  · rw [if_neg hij] at hy' hx'
    exact h.pre j y' x' hy' hx'

theorem Under.total_le {n : Nat} {ys xs : List (List Int)} (h : Under n ys xs) : total ys ≤ total xs := by
  obtain ⟨h1, h2, h3⟩ := h
  clear h3
  induction xs generalizing ys with
  | nil => cases ys with
    | nil => exact Nat.le_refl _
    | cons a l => simp at h1
  | cons x xs ih =>
    cases ys with
    | nil => simp at h1
    | cons y ys =>
      have a := (h2 0 y x rfl rfl).length_le
      have b := ih (ys := ys) (by simpa using h1) (fun i y' x' hy hx => h2 (i + 1) y' x' (by simpa using hy) (by simpa using hx))
      simp only [total, List.map_cons, List.sum_cons] at *
      omega

end Go.Proofs.Ytgpakmcboppfhaa
