/- The plain laws, said of the sets of a cache: every line is in its set, none stands twice; inclusion. -/
import Derived.Test.YtgpakmcboppfhaaQ
namespace Go.Proofs.Ytgpakmcboppfhaa
set_option linter.unusedVariables false
set_option linter.unusedSimpArgs false
open Go.RowKit

/-- Every set holds lines of its own, at most B, each once. -/
def Good (S B : Int) (xss : List (List Int)) : Prop := ∀ (s : Nat) (xs : List Int), xss[s]? = some xs → xs.Nodup ∧ ∀ k ∈ xs, 0 ≤ k ∧ k ≤ B ∧ setN S k = s

theorem good_empty (S B : Int) : Good S B (emptyC S) := by
  intro s xs h
  rw [List.eq_of_mem_replicate (List.mem_of_getElem? h)]
  exact ⟨List.nodup_nil, by simp⟩

theorem line_range {L a B : Int} (hL : 1 ≤ L) (h0 : 0 ≤ a) (ha : a ≤ B) : 0 ≤ a / L ∧ a / L ≤ B :=
  ⟨Int.ediv_nonneg h0 (by omega), Int.le_trans (Int.ediv_le_self _ h0) ha⟩

theorem good_step {S W L B : Int} {xss : List (List Int)} (hv : validB S W L = true) (hc : (xss.length : Int) = S) (h : Good S B xss) (a : Int) (ha : a ≤ B) : Good S B (stepA S W L xss a) := by
  unfold stepA
  by_cases h0 : a < 0
  · rw [if_pos h0]; exact h
  · rw [if_neg h0]
    have hL := (validB_range hv).2.2.2.2.1
    obtain ⟨r1, r2⟩ := line_range hL (show 0 ≤ a by omega) ha
    have hx := nthSet_at hv hc (a / L)
    obtain ⟨g1, g2⟩ := h _ _ hx
    intro s xs hs
    unfold stepC at hs
    rw [List.getElem?_set] at hs
    by_cases hij : setN S (a / L) = s
    · rw [if_pos hij, if_pos (by have := setN_lt (a / L) hv; omega)] at hs
      cases hs
      refine ⟨lru_nodup _ g1, fun k hk => ?_⟩
      rcases lru_mem hk with rfl | hk
      · exact ⟨r1, r2, hij⟩
      · obtain ⟨q1, q2, q3⟩ := g2 k hk
        exact ⟨q1, q2, q3.trans hij⟩
    · rw [if_neg hij] at hs
      exact h s xs hs

theorem good_run {S W L B : Int} (hv : validB S W L = true) : ∀ (l : List Int) {xss : List (List Int)}, (xss.length : Int) = S → Good S B xss → (∀ a ∈ l, a ≤ B) → Good S B (runC S W L xss l)
  | [], _, _, h, _ => h
  | a :: l, xss, hc, h, hl => good_run hv l (by rw [stepA_count]; exact hc) (good_step hv hc h a (hl a (by simp))) (fun b hb => hl b (by simp [hb]))

theorem ageOf_nth {xs : List Int} (h : xs.Nodup) {i : Nat} {k : Int} (hi : xs[i]? = some k) : ageOf xs k = (i : Int) := by
  obtain ⟨hlt, rfl⟩ := List.getElem?_eq_some_iff.1 hi
  unfold ageOf
  rw [if_pos (List.contains_iff_mem.2 (List.getElem_mem _)), List.Nodup.idxOf_getElem h]

theorem nthSet_some {xss : List (List Int)} {s : Nat} {xs : List Int} (h : xss[s]? = some xs) : nthSet xss s = xs := by
  unfold nthSet
  rw [List.getD_eq_getElem?_getD, h]; rfl

theorem not_great {l : List Int} (h : greatB l = false) : (∀ a ∈ l, a ≤ 100000) ∧ l.length ≤ 200 := by
  unfold greatB at h
  rw [Bool.or_eq_false_iff] at h
  obtain ⟨h1, h2⟩ := h
  have := of_decide_eq_false h2
  refine ⟨fun a ha => ?_, by omega⟩
  rw [List.any_eq_false] at h1
  have := h1 a ha
  simpa using this

/-! ### inclusion -/
def Incl (n : Nat) (xs ys : List (List Int)) : Prop := xs.length = ys.length ∧ ∀ (s : Nat) (x y : List Int), xs[s]? = some x → ys[s]? = some y → x = y.take n

theorem incl_step {S W W' L : Int} (hv : validB S W L = true) (hv' : validB S W' L = true) (hW : W ≤ W') {xs ys : List (List Int)} (h : Incl W.toNat xs ys) (hc : (xs.length : Int) = S) (a : Int) :
    Incl W.toNat (stepA S W L xs a) (stepA S W' L ys a) ∧ (hitA S L xs a = true → hitA S L ys a = true) := by
  unfold stepA hitA
  by_cases h0 : a < 0
  · rw [if_pos h0, if_pos h0, if_pos h0, if_pos h0]; exact ⟨h, fun h => h⟩
  · rw [if_neg h0, if_neg h0, if_neg h0, if_neg h0]
    have hx := nthSet_at hv hc (a / L)
    have hy := nthSet_at hv' (by rw [← h.1]; exact hc) (a / L)
    have he := h.2 _ _ _ hx hy
    refine ⟨⟨by unfold stepC; rw [List.length_set, List.length_set]; exact h.1, fun s x y hs hs' => ?_⟩, fun hh => ?_⟩
    · unfold stepC at hs hs'
      rw [List.getElem?_set] at hs hs'
      by_cases hij : setN S (a / L) = s
      · rw [if_pos hij, if_pos (by have := setN_lt (a / L) hv; omega)] at hs
        rw [if_pos hij, if_pos (by have := setN_lt (a / L) hv; have := h.1; omega)] at hs'
        cases hs; cases hs'
        rw [stepS_lru, stepS_lru, he]
        exact lru_take (by omega) _ _
      · rw [if_neg hij] at hs hs'
        exact h.2 s x y hs hs'
    · unfold hitC at *
      rw [he] at hh
      exact List.contains_iff_mem.2 (List.mem_of_mem_take (List.contains_iff_mem.1 hh))

theorem incl_run {S W W' L : Int} (hv : validB S W L = true) (hv' : validB S W' L = true) (hW : W ≤ W') : ∀ (l : List Int) {xs ys : List (List Int)}, Incl W.toNat xs ys → (xs.length : Int) = S → Incl W.toNat (runC S W L xs l) (runC S W' L ys l)
  | [], _, _, h, _ => h
  | a :: l, xs, ys, h, hc => incl_run hv hv' hW l (incl_step hv hv' hW h hc a).1 (by rw [stepA_count]; exact hc)

theorem incl_empty (n : Nat) (S : Int) : Incl n (emptyC S) (emptyC S) := by
  refine ⟨rfl, fun s x y h1 h2 => ?_⟩
  rw [List.eq_of_mem_replicate (List.mem_of_getElem? h1), List.eq_of_mem_replicate (List.mem_of_getElem? h2)]; simp

/-- What the law asks of the two caches behind the accesses. -/
theorem incl_age {S B : Int} {n : Nat} {xs ys : List (List Int)} (h : Incl n xs ys) (hx : Good S B xs) (hy : Good S B ys) {s i : Nat} {x : List Int} {k : Int} (hs : xs[s]? = some x) (hi : x[i]? = some k) :
    0 ≤ k ∧ k ≤ B ∧ ageOf (nthSet ys (setN S k)) k = (i : Int) := by
  have hlt : s < ys.length := by rw [← h.1]; exact (List.getElem?_eq_some_iff.1 hs).1
  have hys : ys[s]? = some ys[s] := List.getElem?_eq_getElem hlt
  obtain ⟨q1, q2, q3⟩ := (hx s x hs).2 k (List.mem_of_getElem? hi)
  refine ⟨q1, q2, ?_⟩
  rw [q3, nthSet_some hys]
  refine ageOf_nth (hy s _ hys).1 ?_
  have := h.2 s x _ hs hys
  rw [this, List.getElem?_take] at hi
  split at hi
  · exact hi
  · cases hi

end Go.Proofs.Ytgpakmcboppfhaa
