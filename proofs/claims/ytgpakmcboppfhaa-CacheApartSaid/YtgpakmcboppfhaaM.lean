/- Words on memory, of no program: a row of ints, a cache's blocks, and what a change leaves alone. -/
import Derived.WalkKit
import Derived.WalkSpells
import Derived.Lib.Hide
import Derived.Laws.IdiomCopy
import Derived.Deep.Draws
namespace Go.Proofs.Ytgpakmcboppfhaa
set_option linter.unusedVariables false
set_option linter.unusedSimpArgs false
open Go.RowKit

/-- All but the blocks of F is as it was; no block has gone. -/
structure Chg (F : Nat → Prop) (w w' : World) : Prop where
  os : w'.os = w.os
  tape : w'.tape = w.tape
  output : w'.output = w.output
  size : w.heap.size ≤ w'.heap.size
  block : ∀ k, k < w.heap.size → ¬ F k → w'.heap[k]? = w.heap[k]?

theorem Chg.refl (F : Nat → Prop) (w : World) : Chg F w w := ⟨rfl, rfl, rfl, Nat.le_refl _, fun _ _ _ => rfl⟩
theorem Chg.trans {F G : Nat → Prop} {a b c : World} (h : Chg F a b) (k : Chg G b c) (hG : ∀ i, G i → F i ∨ a.heap.size ≤ i) : Chg F a c :=
  ⟨k.os.trans h.os, k.tape.trans h.tape, k.output.trans h.output, Nat.le_trans h.size k.size, fun i hi hn =>
    (k.block i (Nat.lt_of_lt_of_le hi h.size) (fun hg => by rcases hG i hg with h1 | h1; exact hn h1; omega)).trans (h.block i hi hn)⟩
theorem Chg.mono {F G : Nat → Prop} {a b : World} (h : Chg F a b) (hG : ∀ i, F i → G i) : Chg G a b :=
  ⟨h.os, h.tape, h.output, h.size, fun i hi hn => h.block i hi (fun hf => hn (hG i hf))⟩
theorem Chg.alloc {F : Nat → Prop} {a b : World} (h : Chg F a b) (o : Obj) : Chg F a (b.alloc o) :=
  h.trans (G := F) ⟨rfl, rfl, rfl, by simp, fun k hk _ => Below.heap_alloc _ _ _ hk⟩ (fun _ h => .inl h)
theorem Chg.drew {F : Nat → Prop} {a b : World} (h : Chg F a b) : Chg F a b.drew := ⟨h.os, h.tape, h.output, h.size, h.block⟩
theorem Chg.drewN {F : Nat → Prop} {a b : World} (h : Chg F a b) (n : Nat) : Chg F a (b.drewN n) := ⟨h.os, h.tape, h.output, h.size, h.block⟩
theorem Chg.setCell {F : Nat → Prop} {a b : World} (h : Chg F a b) (p : Addr) (v : Value) (hp : F p.block ∨ a.heap.size ≤ p.block) : Chg F a (b.setCell p v) :=
  h.trans (G := fun k => k = p.block) ⟨rfl, rfl, rfl, by simp, fun k _ hn => Below.heap_setCell _ _ _ _ hn⟩ (fun _ h => h ▸ hp)
theorem Chg.setCells {F : Nat → Prop} {a : World} (g : Nat) (hp : F g ∨ a.heap.size ≤ g) : ∀ (vs : List Value) (o : Nat) (b : World), Chg F a b → Chg F a (b.setCells g o vs)
  | [], _, _, h => h
  | v :: r, o, b, h => Chg.setCells g hp r (o + 1) _ (h.setCell ⟨g, o, none⟩ v hp)
theorem Chg.below {F : Nat → Prop} {w w' : World} (h : Below w.heap.size w w') : Chg F w w' := ⟨h.os, h.tape, h.output, h.size, fun k hk _ => h.block k hk⟩
theorem Chg.after {F : Nat → Prop} {a w w' : World} (h : Chg F a w) (hb : Below w.heap.size w w') : Chg F a w' :=
  h.trans (G := F) (Chg.below hb) (fun _ h => .inl h)
theorem Chg.toBelow {F : Nat → Prop} {W w w' : World} (h : Chg F w w') (hb : Below W.heap.size W w) (hF : ∀ k, F k → W.heap.size ≤ k) : Below W.heap.size W w' :=
  hb.trans ⟨h.os, h.tape, h.output, h.size, fun k hk => h.block k (Nat.lt_of_lt_of_le hk hb.size) (fun hf => by have := hF k hf; omega)⟩

theorem heap_setCell_self (w : World) (g o : Nat) (v : Value) (c : Array Value) (e : TypeId) (f : Nat × Nat) (h : w.heap[g]? = some (.cells c e f)) :
    (w.setCell ⟨g, o, none⟩ v).heap[g]? = some (.cells (c.setIfInBounds o v) e f) := by
  simp [World.setCell, Array.getElem?_modify, h]

theorem setCells_at (g : Nat) : ∀ (vs : List Value) (o : Nat) (w : World) (c : Array Value) (e : TypeId) (f : Nat × Nat), w.heap[g]? = some (.cells c e f) →
    ∃ c' : Array Value, (w.setCells g o vs).heap[g]? = some (.cells c' e f) ∧ c'.size = c.size ∧ ∀ j, c'[j]? = if o ≤ j ∧ j < o + vs.length ∧ j < c.size then vs[j - o]? else c[j]?
  | [], o, w, c, e, f, h => ⟨c, h, rfl, fun j => by rw [if_neg (by simp; omega)]⟩
  | v :: r, o, w, c, e, f, h => by
    obtain ⟨c', h1, h2, h3⟩ := setCells_at g r (o + 1) (w.setCell ⟨g, o, none⟩ v) _ e f (heap_setCell_self w g o v c e f h)
    refine ⟨c', h1, by simpa using h2, fun j => ?_⟩
    rw [h3 j]
    simp only [Array.size_setIfInBounds, List.length_cons]
    by_cases hj : o = j
    · subst hj
      rw [if_neg (by omega)]
      by_cases hs : o < c.size
      · rw [if_pos (by omega)]; simp [hs]
      · rw [if_neg (by omega)]; simp [hs]
    · by_cases hc : o + 1 ≤ j ∧ j < o + 1 + r.length ∧ j < c.size
      · rw [if_pos hc, if_pos (by omega), show j - o = (j - (o + 1)) + 1 by omega]; simp
      · rw [if_neg hc, if_neg (by omega)]; rw [Array.getElem?_setIfInBounds_ne (by omega)]

/-- Block g is a row of ints of capacity cap; its first cells are xs. -/
def RowAt (w : World) (g cap : Nat) (xs : List Int) : Prop :=
  ∃ cur : Array Value, w.heap[g]? = some (.cells cur 3 (0, 0)) ∧ cur.size = cap ∧ xs.length ≤ cap ∧ cap ≤ maxLen ∧ ∀ j, j < xs.length → cur[j]? = some (.int .i64 (xs.getD j 0))

/-- v is a slice of ints with the elements xs, at the head of its own row (or nil). -/
def SetV (w : World) (v : Value) (xs : List Int) : Prop :=
  (v = .slice none 0 0 ∧ xs = []) ∨ ∃ g cap, v = .slice (some ⟨g, 0, none⟩) xs.length cap ∧ RowAt w g cap xs

def own (v : Value) (k : Nat) : Prop := v.ownBlock = some k

theorem RowAt.lt {w : World} {g cap : Nat} {xs : List Int} (h : RowAt w g cap xs) : g < w.heap.size := by
  obtain ⟨cur, h, _⟩ := h
  exact (Array.getElem?_eq_some_iff.1 h).1
theorem RowAt.cell {w : World} {g cap : Nat} {xs : List Int} (h : RowAt w g cap xs) : ∀ j, j < xs.length → w.cell? ⟨g, j, none⟩ = some (.int .i64 (xs.getD j 0)) := by
  obtain ⟨cur, h1, _, _, _, h2⟩ := h
  intro j hj
  simp [World.cell?, h1, h2 j hj]
theorem RowAt.has {w : World} {g cap : Nat} {xs : List Int} (h : RowAt w g cap xs) : ∀ j, j < cap → (w.cell? ⟨g, j, none⟩).isSome = true := by
  obtain ⟨cur, h1, h2, _⟩ := h
  intro j hj
  simp only [World.cell?, h1]
  simp
  omega
theorem RowAt.free {w : World} {g cap : Nat} {xs : List Int} (h : RowAt w g cap xs) : ∀ j, w.frozen? ⟨g, j, none⟩ = false := by
  obtain ⟨cur, h1, _⟩ := h
  intro j
  simp [World.frozen?, h1]
theorem RowAt.shape {w : World} {g cap : Nat} {xs : List Int} (h : RowAt w g cap xs) : w.shape? g = some (3, cap) := by
  obtain ⟨cur, h1, h2, _⟩ := h
  simp [World.shape?, h1, h2]
theorem RowAt.congr {w w' : World} {g cap : Nat} {xs : List Int} (h : RowAt w g cap xs) (e : w'.heap[g]? = w.heap[g]?) : RowAt w' g cap xs := by
  obtain ⟨cur, h1, h2⟩ := h
  exact ⟨cur, e.trans h1, h2⟩
theorem RowAt.take {w : World} {g cap : Nat} {xs : List Int} (h : RowAt w g cap xs) (n : Nat) : RowAt w g cap (xs.take n) := by
  obtain ⟨cur, h1, h2, h3, h4, h5⟩ := h
  refine ⟨cur, h1, h2, by rw [List.length_take]; omega, h4, fun j hj => ?_⟩
  rw [List.length_take] at hj
  rw [h5 j (by omega)]
  simp [List.getElem?_take, show j < n by omega]

theorem SetV.lt {w : World} {v : Value} {xs : List Int} (h : SetV w v xs) : ∀ k, own v k → k < w.heap.size := by
  intro k hk
  rcases h with ⟨rfl, _⟩ | ⟨g, cap, rfl, hr⟩
  · simp [own, Value.ownBlock] at hk
  · simp [own, Value.ownBlock] at hk; subst hk; exact hr.lt
theorem SetV.congr {w w' : World} {v : Value} {xs : List Int} (h : SetV w v xs) (e : ∀ k, own v k → w'.heap[k]? = w.heap[k]?) : SetV w' v xs := by
  rcases h with h | ⟨g, cap, rfl, hr⟩
  · exact .inl h
  · exact .inr ⟨g, cap, rfl, hr.congr (e g rfl)⟩
theorem SetV.kept {F : Nat → Prop} {w w' : World} {v : Value} {xs : List Int} (h : SetV w v xs) (hc : Chg F w w') (hd : ∀ k, own v k → ¬ F k) : SetV w' v xs :=
  h.congr fun k hk => hc.block k (h.lt k hk) (hd k hk)
theorem SetV.isSlice {w : World} {v : Value} {xs : List Int} (h : SetV w v xs) : ∃ a cap, v = .slice a xs.length cap := by
  rcases h with ⟨rfl, rfl⟩ | ⟨g, cap, rfl, _⟩
  · exact ⟨none, 0, rfl⟩
  · exact ⟨_, cap, rfl⟩

end Go.Proofs.Ytgpakmcboppfhaa
