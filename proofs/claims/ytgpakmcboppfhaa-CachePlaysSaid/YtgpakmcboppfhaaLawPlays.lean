/- CachePlays returns true: hits, misses and contents agree with the reference. -/
import Derived.Test.YtgpakmcboppfhaaV
import Derived.Test.YtgpakmcboppfhaaO
import Derived.Test.YtgpakmcboppfhaaLawFlushes
namespace Go.Proofs.Ytgpakmcboppfhaa
set_option linter.unusedVariables false
set_option linter.unusedSimpArgs false
open Go.RowKit

/-- The state of the law behind some accesses: the cache, the history, the law's box. -/
def Play (w wr : World) (pb : Nat) (S W L : Int) (v : Value) (H : List Int) (X : List (List Int)) : Prop :=
  ∃ F, CacheAt wr pb S W L X F ∧ After S W X H ∧ SetV wr v H ∧ (∀ k ∈ H, 0 ≤ k ∧ k ≤ 100000) ∧ (∀ k, own v k → w.heap.size < k ∧ ¬ F k) ∧ (∀ k, F k → w.heap.size < k) ∧
    (wr.cell? ⟨w.heap.size, 0, none⟩ = some (.int .i64 S) ∧ wr.cell? ⟨w.heap.size, 1, none⟩ = some (.int .i64 W) ∧ wr.cell? ⟨w.heap.size, 2, none⟩ = some (.int .i64 L) ∧ Below w.heap.size w wr)
def PlayDone (w : World) (pb : Nat) (S W L : Int) (v : Value) (H : List Int) (X : List (List Int)) (e0 e : Ending) (w' : World) : Prop := e = e0 ∧ Play w w' pb S W L v H X
/-- The cache alone has changed: it is no longer said that it is the history's. -/
def Mid (w wr : World) (pb : Nat) (S W L : Int) (v : Value) (H : List Int) (X : List (List Int)) : Prop :=
  ∃ F, CacheAt wr pb S W L X F ∧ SetV wr v H ∧ (∀ k, own v k → w.heap.size < k ∧ ¬ F k) ∧ (∀ k, F k → w.heap.size < k) ∧
    (wr.cell? ⟨w.heap.size, 0, none⟩ = some (.int .i64 S) ∧ wr.cell? ⟨w.heap.size, 1, none⟩ = some (.int .i64 W) ∧ wr.cell? ⟨w.heap.size, 2, none⟩ = some (.int .i64 L) ∧ Below w.heap.size w wr)
def MidDone (w : World) (pb : Nat) (S W L : Int) (v : Value) (H : List Int) (X : List (List Int)) (e0 e : Ending) (w' : World) : Prop := e = e0 ∧ Mid w w' pb S W L v H X

theorem step_head {S W L : Int} {X : List (List Int)} (hv : validB S W L = true) (hc : (X.length : Int) = S) (a : Int) :
    hitC S L (stepC S W L X a) a = true ∧ ageOf (nthSet (stepC S W L X a) (setN S (a / L))) (a / L) = 0 := by
  have hlt := setN_lt (a / L) hv
  obtain ⟨s1, s2, w1, w2, l1, l2⟩ := validB_range hv
  have e : nthSet (stepC S W L X a) (setN S (a / L)) = (a / L) :: ((nthSet X (setN S (a / L))).erase (a / L)).take (W.toNat - 1) := by
    refine nthSet_some ?_
    unfold stepC stepS
    rw [List.getElem?_set, if_pos rfl, if_pos (by omega)]
    obtain ⟨m, hm⟩ : ∃ m, W.toNat = m + 1 := ⟨W.toNat - 1, by omega⟩
    rw [hm]; rfl
  refine ⟨?_, by rw [e]; exact ageOf_head _ _⟩
  unfold hitC
  rw [e]; simp

section
variable {w wr w' : World} {pb : Nat} {S W L : Int} {v : Value} {H : List Int} {X : List (List Int)}
theorem Play.mid (h : Play w wr pb S W L v H X) : Mid w wr pb S W L v H X := by
  obtain ⟨F, h1, h2, h3, h4, h5, h6, h7⟩ := h
  exact ⟨F, h1, h3, h5, h6, h7⟩
theorem Mid.below (h : Mid w wr pb S W L v H X) (hb : Below wr.heap.size wr w') : Mid w w' pb S W L v H X := by
  obtain ⟨F, h1, h3, h5, h6, h7⟩ := h
  exact ⟨F, h1.below hb, h3.below hb, h5, h6, keep3 hb h7⟩
theorem Mid.bel (h : Mid w wr pb S W L v H X) : Below w.heap.size w wr := by
  obtain ⟨F, _, _, _, _, _, _, _, h⟩ := h; exact h
theorem Mid.box (h : Mid w wr pb S W L v H X) : wr.cell? ⟨w.heap.size, 0, none⟩ = some (.int .i64 S) ∧ wr.cell? ⟨w.heap.size, 1, none⟩ = some (.int .i64 W) ∧ wr.cell? ⟨w.heap.size, 2, none⟩ = some (.int .i64 L) := by
  obtain ⟨F, _, _, _, _, a, b, c, _⟩ := h; exact ⟨a, b, c⟩
theorem Mid.probe (h : Mid w wr pb S W L v H X) (hv : validB S W L = true) (a : Int) (h0 : 0 ≤ a) (ha : a ≤ 100000) :
    Calls Try.prog 26 #[.pointer (some ⟨pb, 0, none⟩), .int .i64 a] wr (MidDone w pb S W L v H X (.returned (.bool (hitC S L X a)))) := by
  have hm := h
  obtain ⟨F, h1, _⟩ := h
  refine (probe_c h1 hv a h0 (by omega)).mono ?_
  rintro e w' ⟨rfl, hb⟩
  exact ⟨rfl, hm.below hb⟩
theorem Mid.age (h : Mid w wr pb S W L v H X) (hv : validB S W L = true) (l : Int) (h0 : 0 ≤ l) (ha : l ≤ 100000) :
    Calls Try.prog 25 #[.pointer (some ⟨pb, 0, none⟩), .int .i64 l] wr (MidDone w pb S W L v H X (.returned (.int .i64 (ageOf (nthSet X (setN S l)) l)))) := by
  have hm := h
  obtain ⟨F, h1, _⟩ := h
  refine (age_c h1 hv l h0 (by omega)).mono ?_
  rintro e w' ⟨rfl, hb⟩
  exact ⟨rfl, hm.below hb⟩
theorem Mid.access (h : Mid w wr pb S W L v H X) (hv : validB S W L = true) (a : Int) (h0 : 0 ≤ a) (ha : a ≤ 100000) :
    Calls Try.prog 23 #[.pointer (some ⟨pb, 0, none⟩), .int .i64 a] wr (MidDone w pb S W L v H (stepC S W L X a) (.returned (.bool (hitC S L X a)))) := by
  obtain ⟨F, h1, h3, h5, h6, h7⟩ := h
  have hlt := World.block_lt_of_cell? wr _ h7.1
  simp only at hlt
  refine (access_c h1 hv a h0 (by omega)).mono ?_
  rintro e w' ⟨rfl, F', c, g, o⟩
  refine ⟨rfl, F', c, h3.kept g (fun k hk => (h5 k hk).2), fun k hk => ⟨(h5 k hk).1, fun hf => ?_⟩, fun k hk => ?_, keepC g h6 h7⟩
  · rcases o k hf with o | o
    · exact (h5 k hk).2 o
    · have := h3.lt k hk; omega
  · rcases o k hk with o | o
    · exact h6 k o
    · omega
theorem Play.flush (h : Play w wr pb S W L v H X) (hv : validB S W L = true) :
    Calls Try.prog 22 #[.pointer (some ⟨pb, 0, none⟩)] wr (PlayDone w pb S W L (.slice none 0 0) [] (emptyC S) (.returned (.tuple #[]))) := by
  obtain ⟨F, h1, h2, h3, h4, h5, h6, h7⟩ := h
  have hlt := World.block_lt_of_cell? wr _ h7.1
  simp only at hlt
  refine (flush_c h1 hv).mono ?_
  rintro e w' ⟨rfl, F', c, g, o⟩
  refine ⟨rfl, F', c, after_empty hv, .inl ⟨rfl, rfl⟩, by simp, fun k hk => by simp [own, Value.ownBlock] at hk, fun k hk => ?_, keepC g h6 h7⟩
  rcases o k hk with o | o
  · exact h6 k o
  · omega
/-- history = append(history, line). -/
theorem Mid.append {v' : Value} {x : Int} (h : Mid w wr pb S W L v H (stepA S W L X x)) (hv : validB S W L = true) (ha : After S W X H) (hH : ∀ k ∈ H, 0 ≤ k ∧ k ≤ 100000) (h0 : 0 ≤ x) (hx : x ≤ 100000)
    (hown : w'.ownsRow (w.heap.size + 1) 3 1 v' (H.length + 1) (H.map (Value.int .i64) ++ [.int .i64 (x / L)])) (hg : (wr.alloc (.cells #[.int .i64 (x / L)] 3)).grownBy w' v.ownBlock)
    (hfar : ∀ k, own v' k → own v k ∨ wr.heap.size < k) : Play w w' pb S W L v' (H ++ [x / L]) (stepA S W L X x) := by
  obtain ⟨F, h1, h3, h5, h6, h7⟩ := h
  obtain ⟨s1, s2⟩ := SetV.ofOwns (xs := H ++ [x / L]) hown (by simp) (by simp)
  have hc : Chg (own v) wr w' := ((Chg.refl (own v) wr).alloc _).trans (Chg.grown hg) (fun _ h => .inl h)
  have hL := (validB_range hv).2.2.2.2.1
  refine ⟨F, h1.kept hc (fun k hk ho => (h5 k ho).2 hk), after_step hv ha h0, s1, ?_, ?_, h6, keepC hc (fun k hk => (h5 k hk).1) h7⟩
  · intro k hk
    rcases List.mem_append.1 hk with hk | hk
    · exact hH k hk
    · rw [List.mem_singleton] at hk
      rw [hk]; exact line_range hL h0 hx
  · intro k hk
    refine ⟨s2 k hk, fun hf => ?_⟩
    rcases hfar k hk with o | o
    · exact (h5 k o).2 hf
    · have := h1.lt k hf; omega
end

end Go.Proofs.Ytgpakmcboppfhaa
