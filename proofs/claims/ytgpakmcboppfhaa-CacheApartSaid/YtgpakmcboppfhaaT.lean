/- Stack distance: a line is in a set exactly if fewer other lines of the set than ways were accessed since. -/
import Derived.Test.YtgpakmcboppfhaaS
import Derived.Test.YtgpakmcboppfhaaN
namespace Go.Proofs.Ytgpakmcboppfhaa
set_option linter.unusedVariables false
set_option linter.unusedSimpArgs false
open Go.RowKit

/-- The lines of set s among the accesses, the first access first. -/
def inS (S L : Int) (s : Nat) (l : List Int) : List Int := l.filterMap (fun a => if 0 ≤ a ∧ setN S (a / L) = s then some (a / L) else none)

def push (F : List Int) (k : Int) : List Int := k :: F.erase k
def stackOf (q : List Int) : List Int := q.foldl push []

theorem lru_push (n : Nat) (F : List Int) (k : Int) : lru n (F.take n) k = (push F k).take n := by
  have h := lru_take (n := n) (m := max n (F.length + 1)) (by omega) F k
  rw [h]
  unfold lru push
  rw [List.take_take]
  by_cases hn : n ≤ max n (F.length + 1)
  · rw [Nat.min_eq_left hn]
  · omega

theorem fold_lru (n : Nat) : ∀ (q F : List Int), q.foldl (lru n) (F.take n) = (q.foldl push F).take n
  | [], F => rfl
  | k :: q, F => by rw [List.foldl_cons, lru_push, fold_lru n q, List.foldl_cons]

theorem set_of_run {S W L : Int} (hv : validB S W L = true) (s : Nat) : ∀ (l : List Int) {xss : List (List Int)}, (xss.length : Int) = S → (s : Int) < S → nthSet (runC S W L xss l) s = (inS S L s l).foldl (lru W.toNat) (nthSet xss s)
  | [], _, _, _ => rfl
  | a :: l, xss, hc, hs => by
    show nthSet (runC S W L (stepA S W L xss a) l) s = _
    rw [set_of_run hv s l (by rw [stepA_count]; exact hc) hs]
    unfold inS
    rw [List.filterMap_cons]
    by_cases h0 : 0 ≤ a
    · by_cases hj : setN S (a / L) = s
      · have e : nthSet (stepA S W L xss a) s = lru W.toNat (nthSet xss s) (a / L) := by
          unfold stepA
          rw [if_neg (by omega)]
          refine nthSet_some ?_
          unfold stepC
          rw [List.getElem?_set, if_pos hj, if_pos (by have := setN_lt (a / L) hv; omega), hj]; rfl
        rw [if_pos ⟨h0, hj⟩, e]; rfl
      · have e : nthSet (stepA S W L xss a) s = nthSet xss s := by
          unfold stepA
          rw [if_neg (by omega)]
          unfold nthSet stepC
          rw [List.getD_eq_getElem?_getD, List.getD_eq_getElem?_getD, List.getElem?_set, if_neg hj]
        rw [if_neg (fun h => hj h.2), e]
    · have e : stepA S W L xss a = xss := by unfold stepA; rw [if_pos (by omega)]
      rw [if_neg (fun h => h0 h.1), e]

theorem set_run {S W L : Int} (hv : validB S W L = true) (s : Nat) (hs : (s : Int) < S) (l : List Int) : nthSet (runC S W L (emptyC S) l) s = (stackOf (inS S L s l)).take W.toNat := by
  rw [set_of_run hv s l (empty_count hv) hs]
  have : nthSet (emptyC S) s = ([] : List Int).take W.toNat := by
    rw [List.take_nil]
    refine nthSet_some ?_
    unfold emptyC
    rw [List.getElem?_replicate, if_pos (by omega)]
  rw [this, fold_lru]; rfl

theorem push_nodup {F : List Int} (h : F.Nodup) (k : Int) : (push F k).Nodup := by
  unfold push
  rw [List.nodup_cons]
  refine ⟨fun hm => ?_, h.erase k⟩
  rw [List.Nodup.mem_erase_iff h] at hm
  exact hm.1 rfl
theorem mem_push {F : List Int} {k x : Int} : x ∈ push F k ↔ x = k ∨ x ∈ F := by
  unfold push
  rw [List.mem_cons]
  constructor
  · rintro (h | h)
    · exact .inl h
    · exact .inr (List.mem_of_mem_erase h)
  · rintro (h | h)
    · exact .inl h
    · by_cases hx : x = k
      · exact .inl hx
      · exact .inr ((List.mem_erase_of_ne hx).2 h)
theorem fold_nodup : ∀ (q : List Int) {F : List Int}, F.Nodup → (q.foldl push F).Nodup
  | [], _, h => h
  | k :: q, _, h => fold_nodup q (push_nodup h k)
theorem mem_fold : ∀ (q : List Int) {F : List Int} {x : Int}, x ∈ q.foldl push F ↔ x ∈ q ∨ x ∈ F
  | [], F, x => by simp
  | k :: q, F, x => by
    rw [List.foldl_cons, mem_fold q, mem_push, List.mem_cons]
    constructor
    · rintro (h | h | h)
      · exact .inl (.inr h)
      · exact .inl (.inl h)
      · exact .inr h
    · rintro ((h | h) | h)
      · exact .inr (.inl h)
      · exact .inl h
      · exact .inr (.inr h)
theorem stack_nodup (q : List Int) : (stackOf q).Nodup := fold_nodup q List.nodup_nil
theorem mem_stack {q : List Int} {x : Int} : x ∈ stackOf q ↔ x ∈ q := by unfold stackOf; rw [mem_fold]; simp

/-- If x is not accessed again it stands right below the later accesses. -/
theorem fold_below (x : Int) : ∀ (q A F : List Int), x ∉ q → ∃ t, q.foldl push (A ++ x :: F) = q.foldl push A ++ x :: t
  | [], A, F, _ => ⟨F, rfl⟩
  | k :: q, A, F, hq => by
    have hk : k ≠ x := fun h => hq (by simp [h])
    have hq' : x ∉ q := fun h => hq (by simp [h])
    rw [List.foldl_cons, List.foldl_cons]
    by_cases hA : k ∈ A
    · have : push (A ++ x :: F) k = push A k ++ x :: F := by
        unfold push
        rw [List.erase_append_left _ hA]; rfl
      rw [this]
      exact fold_below x q _ F hq'
    · have : push (A ++ x :: F) k = push A k ++ x :: F.erase k := by
        unfold push
        rw [List.erase_append_right _ hA, List.erase_cons_tail (by simpa using Ne.symm hk), List.erase_of_not_mem hA]; rfl
      rw [this]
      exact fold_below x q _ _ hq'

theorem stack_split (P q : List Int) (x : Int) (hq : x ∉ q) : ∃ t, stackOf (P ++ x :: q) = stackOf q ++ x :: t := by
  unfold stackOf
  rw [List.foldl_append, List.foldl_cons]
  have := fold_below x q [] ((P.foldl push []).erase x) hq
  exact this

theorem mem_take_split {A t : List Int} {x : Int} (h : x ∉ A) (n : Nat) : x ∈ (A ++ x :: t).take n ↔ A.length < n := by
  rw [List.take_append, List.mem_append]
  constructor
  · rintro (hm | hm)
    · exact absurd (List.mem_of_mem_take hm) h
    · rcases Nat.lt_or_ge A.length n with h1 | h1
      · exact h1
      · rw [show n - A.length = 0 by omega] at hm; simp at hm
  · intro hl
    right
    obtain ⟨m, hm⟩ : ∃ m, n - A.length = m + 1 := ⟨n - A.length - 1, by omega⟩
    rw [hm]; simp

theorem inS_append (S L : Int) (s : Nat) (p q : List Int) : inS S L s (p ++ q) = inS S L s p ++ inS S L s q := List.filterMap_append

theorem mem_inS {S L : Int} {s : Nat} {l : List Int} {x : Int} : x ∈ inS S L s l ↔ ∃ a ∈ l, 0 ≤ a ∧ setN S (a / L) = s ∧ a / L = x := by
  unfold inS
  rw [List.mem_filterMap]
  constructor
  · rintro ⟨a, ha, h⟩
    split at h
    · rename_i hc; cases h; exact ⟨a, ha, hc.1, hc.2, rfl⟩
    · cases h
  · rintro ⟨a, ha, h0, hs, rfl⟩
    exact ⟨a, ha, by rw [if_pos ⟨h0, hs⟩]⟩

theorem reuse_found {S W L : Int} (hv : validB S W L = true) {addr : Int} (p : List Int) (a : Int) (q : List Int) (h0 : 0 ≤ a) (ha : a / L = addr / L) (hq : ∀ b ∈ q, 0 ≤ b → b / L ≠ addr / L) :
    hitC S L (runC S W L (emptyC S) (p ++ a :: q)) addr = decide ((stackOf (inS S L (setN S (addr / L)) q)).length < W.toNat) := by
  unfold hitC
  rw [set_run hv _ (setN_lt _ hv), inS_append]
  have e : inS S L (setN S (addr / L)) (a :: q) = addr / L :: inS S L (setN S (addr / L)) q := by
    unfold inS
    rw [List.filterMap_cons, if_pos ⟨h0, by rw [ha]⟩, ha]
  have hn : addr / L ∉ inS S L (setN S (addr / L)) q := by
    intro hm
    obtain ⟨b, hb, hb0, _, hbl⟩ := mem_inS.1 hm
    exact hq b hb hb0 hbl
  rw [e]
  obtain ⟨t, ht⟩ := stack_split (inS S L (setN S (addr / L)) p) _ _ hn
  rw [ht, Bool.eq_iff_iff, List.contains_iff_mem, decide_eq_true_eq]
  exact mem_take_split (fun h => hn (mem_stack.1 h)) _

theorem reuse_none {S W L : Int} (hv : validB S W L = true) {addr : Int} (l : List Int) (hq : ∀ b ∈ l, 0 ≤ b → b / L ≠ addr / L) :
    hitC S L (runC S W L (emptyC S) l) addr = false := by
  unfold hitC
  rw [set_run hv _ (setN_lt _ hv)]
  apply Bool.eq_false_iff.2
  intro h
  have hm := mem_stack.1 (List.mem_of_mem_take (List.contains_iff_mem.1 h))
  obtain ⟨b, hb, hb0, _, hbl⟩ := mem_inS.1 hm
  exact hq b hb hb0 hbl

/-- The map of the law: the lines of the set that were accessed in q, each once. -/
def Others (S L : Int) (s : Nat) (q : List Int) (D : List (Int × Value)) : Prop := (D.map (·.1)).Nodup ∧ ∀ x, x ∈ D.map (·.1) ↔ x ∈ inS S L s q

theorem Others.len {S L : Int} {s : Nat} {q : List Int} {D : List (Int × Value)} (h : Others S L s q D) : D.length = (stackOf (inS S L s q)).length := by
  have := (List.perm_ext_iff_of_nodup h.1 (stack_nodup (inS S L s q))).2 (fun x => (h.2 x).trans mem_stack.symm)
  have := this.length_eq
  rwa [List.length_map] at this

theorem aput_keys (k : Int) (v : Value) : ∀ (D : List (Int × Value)), (k ∈ D.map (·.1) → (aput D k v).map (·.1) = D.map (·.1)) ∧ (k ∉ D.map (·.1) → (aput D k v).map (·.1) = D.map (·.1) ++ [k])
  | [] => ⟨fun h => by simp at h, fun _ => rfl⟩
  | p :: D => by
    obtain ⟨a, b⟩ := aput_keys k v D
    unfold aput
    by_cases hp : p.1 = k
    · rw [if_pos hp]
      exact ⟨fun _ => rfl, fun h => absurd (by simp [hp]) h⟩
    · rw [if_neg hp]
      refine ⟨fun h => ?_, fun h => ?_⟩
      · rw [List.map_cons, List.map_cons, a (by
          rcases List.mem_cons.1 h with h | h
          · exact absurd h.symm hp
          · exact h)]
      · rw [List.map_cons, List.map_cons, b (fun hm => h (List.mem_cons_of_mem _ hm))]; rfl

theorem Others.start (S L : Int) (s : Nat) : Others S L s [] [] := ⟨List.nodup_nil, fun x => by simp [inS]⟩
theorem Others.keep {S L : Int} {s : Nat} {q : List Int} {D : List (Int × Value)} (h : Others S L s q D) {a : Int} (ha : ¬ (0 ≤ a ∧ setN S (a / L) = s)) : Others S L s (a :: q) D := by
  refine ⟨h.1, fun x => ?_⟩
  rw [h.2 x]
  unfold inS
  rw [List.filterMap_cons, if_neg ha]
theorem Others.more {S L : Int} {s : Nat} {q : List Int} {D : List (Int × Value)} (h : Others S L s q D) {a : Int} (h0 : 0 ≤ a) (ha : setN S (a / L) = s) (v : Value) : Others S L s (a :: q) (aput D (a / L) v) := by
  obtain ⟨k1, k2⟩ := aput_keys (a / L) v D
  have e : inS S L s (a :: q) = a / L :: inS S L s q := by
    unfold inS
    rw [List.filterMap_cons, if_pos ⟨h0, ha⟩]
  rw [show Others S L s (a :: q) (aput D (a / L) v) = (((aput D (a / L) v).map (·.1)).Nodup ∧ ∀ x, x ∈ (aput D (a / L) v).map (·.1) ↔ x ∈ inS S L s (a :: q)) from rfl, e]
  by_cases hm : a / L ∈ D.map (·.1)
  · rw [k1 hm]
    refine ⟨h.1, fun x => ?_⟩
    rw [h.2 x, List.mem_cons]
    constructor
    · exact fun h => .inr h
    · rintro (rfl | h')
      · exact (h.2 _).1 hm
      · exact h'
  · rw [k2 hm]
    refine ⟨?_, fun x => ?_⟩
    · rw [List.nodup_append]
      refine ⟨h.1, by simp, ?_⟩
      intro x hx y hy
      rw [List.mem_singleton] at hy
      subst hy
      exact fun e => hm (e ▸ hx)
    · rw [List.mem_append, h.2 x, List.mem_singleton, List.mem_cons]
      exact or_comm

end Go.Proofs.Ytgpakmcboppfhaa
