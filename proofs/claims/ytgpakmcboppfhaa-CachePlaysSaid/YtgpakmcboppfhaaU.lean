/- The reference's Contents and Age, said of stacks; the sets of a cache after a history. -/
import Derived.Test.YtgpakmcboppfhaaT
namespace Go.Proofs.Ytgpakmcboppfhaa
set_option linter.unusedVariables false
set_option linter.unusedSimpArgs false
open Go.RowKit

theorem fold_last (x : Int) : ∀ (q A : List Int), x ∉ A → q.foldl push (A ++ [x]) = if x ∈ q then q.foldl push A else q.foldl push A ++ [x]
  | [], A, _ => by simp
  | k :: q, A, hA => by
    rw [List.foldl_cons, List.foldl_cons]
    by_cases hk : k = x
    · subst hk
      have e : push (A ++ [k]) k = push A k := by
        unfold push
        rw [List.erase_append_right _ hA, List.erase_of_not_mem hA]; simp
      rw [e, if_pos (by simp)]
    · have e : push (A ++ [x]) k = push A k ++ [x] := by
        unfold push
        by_cases hm : k ∈ A
        · rw [List.erase_append_left _ hm]; rfl
        · rw [List.erase_append_right _ hm, List.erase_of_not_mem hm, List.erase_of_not_mem (by simp [hk])]; rfl
      have hn : x ∉ push A k := by
        rw [mem_push]
        rintro (h | h)
        · exact hk h.symm
        · exact hA h
      rw [e, fold_last x q _ hn]
      have : x ∈ k :: q ↔ x ∈ q := by
        rw [List.mem_cons]
        constructor
        · rintro (h | h)
          · exact absurd h.symm hk
          · exact h
        · exact .inr
      by_cases hq : x ∈ q
      · rw [if_pos hq, if_pos (this.2 hq)]
      · rw [if_neg hq, if_neg (fun h => hq (this.1 h))]

theorem stack_cons (x : Int) (q : List Int) : stackOf (x :: q) = if x ∈ q then stackOf q else stackOf q ++ [x] := by
  have := fold_last x q [] (by simp)
  unfold stackOf
  rw [List.foldl_cons]
  exact this

theorem stack_head (P q : List Int) : stackOf q <+: stackOf (P ++ q) := by
  induction P with
  | nil => exact List.prefix_refl _
  | cons x P ih =>
    rw [List.cons_append, stack_cons]
    split
    · exact ih
    · exact ih.trans (List.prefix_append _ _)

/-- The lines of set s in a history of lines; the contents of the set. -/
def ofSet (S : Int) (s : Nat) (H : List Int) : List Int := H.filter (fun k => decide (setN S k = s))
def conts (S W : Int) (H : List Int) (s : Nat) : List Int := (stackOf (ofSet S s H)).take W.toNat

theorem ofSet_cons (S : Int) (s : Nat) (x : Int) (H : List Int) : ofSet S s (x :: H) = if setN S x = s then x :: ofSet S s H else ofSet S s H := by
  unfold ofSet
  rw [List.filter_cons]
  by_cases h : setN S x = s
  · rw [if_pos h, decide_eq_true h]; rfl
  · rw [if_neg h, decide_eq_false h]; rfl

/-- What the scan from the end has found. -/
def scan (S : Int) (s : Nat) (H : List Int) (i : Nat) : List Int := stackOf (ofSet S s (H.drop i))

theorem scan_start (S : Int) (s : Nat) (H : List Int) : scan S s H H.length = [] := by unfold scan; rw [List.drop_length]; rfl
theorem scan_step {S : Int} {s : Nat} {H : List Int} {k : Nat} (hk : k < H.length) :
    scan S s H k = if setN S (H.getD k 0) = s ∧ H.getD k 0 ∉ scan S s H (k + 1) then scan S s H (k + 1) ++ [H.getD k 0] else scan S s H (k + 1) := by
  unfold scan
  have e : H.drop k = H.getD k 0 :: H.drop (k + 1) := by rw [List.drop_eq_getElem_cons hk, List.getD_eq_getElem?_getD, List.getElem?_eq_getElem hk]; rfl
  rw [e, ofSet_cons]
  by_cases h : setN S (H.getD k 0) = s
  · rw [if_pos h, stack_cons]
    by_cases hm : H.getD k 0 ∈ ofSet S s (H.drop (k + 1))
    · rw [if_pos hm, if_neg (fun hh => hh.2 (mem_stack.2 hm))]
    · rw [if_neg hm, if_pos ⟨h, fun hh => hm (mem_stack.1 hh)⟩]
  · rw [if_neg h, if_neg (fun hh => h hh.1)]
theorem scan_end {S W : Int} {s : Nat} {H : List Int} {i : Nat} (hl : (scan S s H i).length ≤ W.toNat) (h : i = 0 ∨ W.toNat ≤ (scan S s H i).length) : scan S s H i = conts S W H s := by
  unfold conts
  rcases h with rfl | h
  · unfold scan at *
    rw [List.drop_zero] at *
    rw [List.take_of_length_le hl]
  · have hp : scan S s H i <+: stackOf (ofSet S s H) := by
      unfold scan
      have e : ofSet S s H = ofSet S s (H.take i) ++ ofSet S s (H.drop i) := by
        unfold ofSet; rw [← List.filter_append, List.take_append_drop]
      rw [e]
      exact stack_head _ _
    obtain ⟨t, ht⟩ := hp
    rw [← ht, List.take_append, show W.toNat - (scan S s H i).length = 0 by omega, List.take_zero, List.append_nil, List.take_of_length_le hl]

/-- The sets of a cache are the contents of its history. -/
def After (S W : Int) (X : List (List Int)) (H : List Int) : Prop := (X.length : Int) = S ∧ ∀ s : Nat, (s : Int) < S → nthSet X s = conts S W H s

theorem after_empty {S W L : Int} (hv : validB S W L = true) : After S W (emptyC S) [] := by
  refine ⟨empty_count hv, fun s hs => ?_⟩
  unfold conts ofSet stackOf
  rw [List.filter_nil, List.foldl_nil, List.take_nil]
  refine nthSet_some ?_
  unfold emptyC
  rw [List.getElem?_replicate, if_pos (by omega)]

theorem after_step {S W L : Int} (hv : validB S W L = true) {X : List (List Int)} {H : List Int} (h : After S W X H) {a : Int} (h0 : 0 ≤ a) : After S W (stepA S W L X a) (H ++ [a / L]) := by
  obtain ⟨hc, hx⟩ := h
  refine ⟨by rw [stepA_count]; exact hc, fun s hs => ?_⟩
  unfold stepA
  rw [if_neg (by omega)]
  have hlt := setN_lt (a / L) hv
  have e : ofSet S s (H ++ [a / L]) = ofSet S s H ++ (if setN S (a / L) = s then [a / L] else []) := by
    unfold ofSet
    rw [List.filter_append, List.filter_cons, List.filter_nil]
    by_cases h : setN S (a / L) = s
    · rw [if_pos h, decide_eq_true h]; rfl
    · rw [if_neg h, decide_eq_false h]; rfl
  by_cases hj : setN S (a / L) = s
  · have e2 : nthSet (stepC S W L X a) s = lru W.toNat (nthSet X s) (a / L) := by
      refine nthSet_some ?_
      unfold stepC
      rw [List.getElem?_set, if_pos hj, if_pos (by omega), hj]; rfl
    rw [e2, hx s hs]
    unfold conts
    rw [lru_push, e, if_pos hj]
    unfold stackOf
    rw [List.foldl_append]; rfl
  · have e2 : nthSet (stepC S W L X a) s = nthSet X s := by
      unfold nthSet stepC
      rw [List.getD_eq_getElem?_getD, List.getD_eq_getElem?_getD, List.getElem?_set, if_neg hj]
    rw [e2, hx s hs]
    unfold conts
    rw [e, if_neg hj, List.append_nil]

theorem conts_len (S W : Int) (H : List Int) (s : Nat) : (conts S W H s).length ≤ W.toNat := by unfold conts; rw [List.length_take]; omega
theorem ageOf_ge (xs : List Int) (l : Int) : decide (0 ≤ ageOf xs l) = xs.contains l := by
  unfold ageOf
  by_cases hc : xs.contains l = true
  · rw [if_pos hc, hc]; simp
  · rw [if_neg hc, Bool.eq_false_iff.2 hc]; rfl
theorem ageOf_head (x : Int) (t : List Int) : ageOf (x :: t) x = 0 := by
  unfold ageOf
  rw [if_pos (by simp)]; simp

end Go.Proofs.Ytgpakmcboppfhaa
