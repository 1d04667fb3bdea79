/- CacheApart returns true: a set sees its own accesses alone; a clone lives apart. -/
import Derived.Test.YtgpakmcboppfhaaLawReuse
import Derived.Test.YtgpakmcboppfhaaLawFlushes
import Derived.Test.YtgpakmcboppfhaaS
namespace Go.Proofs.Ytgpakmcboppfhaa
set_option linter.unusedVariables false
set_option linter.unusedSimpArgs false
open Go.RowKit

theorem near_yes {S W L : Int} {X Y : List (List Int)} {s : Nat} (hv : validB S W L = true) (hY : (Y.length : Int) = S) (hX : (X.length : Int) = S) (h : nthSet Y s = nthSet X s) {x : Int} (h0 : 0 ≤ x) (hs : setN S (x / L) = s) :
    nthSet (stepC S W L Y x) s = nthSet (stepA S W L X x) s := by
  have hlt := setN_lt (x / L) hv
  unfold stepA
  rw [if_neg (by omega)]
  unfold stepC
  rw [nthSet_some (xss := Y.set _ _) (s := s) (xs := stepS W (nthSet Y (setN S (x / L))) (x / L)) (by rw [List.getElem?_set, if_pos hs, if_pos (by omega)]),
    nthSet_some (xss := X.set _ _) (s := s) (xs := stepS W (nthSet X (setN S (x / L))) (x / L)) (by rw [List.getElem?_set, if_pos hs, if_pos (by omega)]), hs, h]
theorem near_no {S W L : Int} {X Y : List (List Int)} {s : Nat} (h : nthSet Y s = nthSet X s) {x : Int} (hs : 0 ≤ x → setN S (x / L) ≠ s) : nthSet Y s = nthSet (stepA S W L X x) s := by
  unfold stepA
  by_cases h0 : x < 0
  · rw [if_pos h0]; exact h
  · rw [if_neg h0, h]
    unfold nthSet stepC
    rw [List.getD_eq_getElem?_getD, List.getD_eq_getElem?_getD, List.getElem?_set, if_neg (hs (by omega))]

/-- The three caches while the one set's accesses go. -/
def Tri (w wr : World) (S W L set : Int) (X0 X Y : List (List Int)) (pa pc pz : Nat) (F G K : Nat → Prop) : Prop :=
  CacheAt wr pa S W L X F ∧ CacheAt wr pc S W L Y G ∧ CacheAt wr pz S W L X K ∧ (∀ k, G k → ¬ F k ∧ ¬ K k ∧ w.heap.size < k) ∧ (Y.length : Int) = S ∧ (∀ s : Nat, (s : Int) = set → nthSet Y s = nthSet X0 s)

theorem Tri.below {w wr w' : World} {S W L set : Int} {X0 X Y : List (List Int)} {pa pc pz : Nat} {F G K : Nat → Prop} (h : Tri w wr S W L set X0 X Y pa pc pz F G K) (hb : Below wr.heap.size wr w') : Tri w w' S W L set X0 X Y pa pc pz F G K := by
  obtain ⟨h1, h2, h3, h4, h5⟩ := h
  exact ⟨h1.below hb, h2.below hb, h3.below hb, h4, h5⟩

/-- The caches and what Lines of each has given. -/
def Trio (w wr : World) (S W L : Int) (X Y : List (List Int)) (pa pz o1 o2 o3 : Nat) (v1 v2 v3 : List Value) (F K : Nat → Prop) : Prop :=
  CacheAt wr pa S W L X F ∧ CacheAt wr pz S W L X K ∧ TableAt wr o1 v1 X ∧ TableAt wr o2 v2 Y ∧ TableAt wr o3 v3 X ∧
    (wr.cell? ⟨w.heap.size, 0, none⟩ = some (.int .i64 S) ∧ wr.cell? ⟨w.heap.size, 1, none⟩ = some (.int .i64 W) ∧ wr.cell? ⟨w.heap.size, 2, none⟩ = some (.int .i64 L) ∧ Below w.heap.size w wr)

theorem Trio.below {w wr w' : World} {S W L : Int} {X Y : List (List Int)} {pa pz o1 o2 o3 : Nat} {v1 v2 v3 : List Value} {F K : Nat → Prop} (h : Trio w wr S W L X Y pa pz o1 o2 o3 v1 v2 v3 F K) (hb : Below wr.heap.size wr w') :
    Trio w w' S W L X Y pa pz o1 o2 o3 v1 v2 v3 F K := by
  obtain ⟨h1, h2, h3, h4, h5, h6⟩ := h
  exact ⟨h1.below hb, h2.below hb, h3.below hb, h4.below hb, h5.below hb, keep3 hb h6⟩

/-- The clone and the two tables, when the first cache has gone on. -/
def Rest (w wr : World) (S W L : Int) (X : List (List Int)) (pz o1 o3 : Nat) (v1 v3 : List Value) (K : Nat → Prop) : Prop :=
  CacheAt wr pz S W L X K ∧ TableAt wr o1 v1 X ∧ TableAt wr o3 v3 X ∧
    (wr.cell? ⟨w.heap.size, 0, none⟩ = some (.int .i64 S) ∧ wr.cell? ⟨w.heap.size, 1, none⟩ = some (.int .i64 W) ∧ wr.cell? ⟨w.heap.size, 2, none⟩ = some (.int .i64 L) ∧ Below w.heap.size w wr)

theorem Rest.below {w wr w' : World} {S W L : Int} {X : List (List Int)} {pz o1 o3 : Nat} {v1 v3 : List Value} {K : Nat → Prop} (h : Rest w wr S W L X pz o1 o3 v1 v3 K) (hb : Below wr.heap.size wr w') : Rest w w' S W L X pz o1 o3 v1 v3 K := by
  obtain ⟨h1, h2, h3, h4⟩ := h
  exact ⟨h1.below hb, h2.below hb, h3.below hb, keep3 hb h4⟩
theorem Rest.bel {w wr : World} {S W L : Int} {X : List (List Int)} {pz o1 o3 : Nat} {v1 v3 : List Value} {K : Nat → Prop} (h : Rest w wr S W L X pz o1 o3 v1 v3 K) : Below w.heap.size w wr := h.2.2.2.2.2.2

theorem Trio.rest {w wr w' : World} {S W L : Int} {X Y : List (List Int)} {pa pz o1 o2 o3 : Nat} {v1 v2 v3 : List Value} {F K : Nat → Prop} (h : Trio w wr S W L X Y pa pz o1 o2 o3 v1 v2 v3 F K) (hc : Chg F wr w')
    (hF : ∀ k, F k → w.heap.size < k) (hK : ∀ k, K k → ¬ F k) (h1 : ∀ k, tfoot o1 v1 k → ¬ F k) (h3 : ∀ k, tfoot o3 v3 k → ¬ F k) : Rest w w' S W L X pz o1 o3 v1 v3 K := by
  obtain ⟨g1, g2, g3, g4, g5, g6⟩ := h
  exact ⟨g2.kept hc (fun k hk hf => hK k hk hf), g3.kept hc h1, g5.kept hc h3, keepC hc hF g6⟩

/-- A row of a table, by its value. -/
theorem TableAt.row {w : World} {sb : Nat} {vs : List Value} {xss : List (List Int)} (h : TableAt w sb vs xss) {i : Nat} {xs : List Int} {a : Option Addr} {c : Nat} (hx : xss[i]? = some xs) (hv : vs[i]? = some (.slice a xs.length c)) :
    w.cell? ⟨sb, i, none⟩ = some (.slice a xs.length c) ∧ ArgI w.heap.size w a xs := by
  obtain ⟨a', c', e, e2, e3⟩ := h.nth hx
  rw [hv] at e
  injection e with e
  injection e with ea _ ec
  subst ea ec
  exact ⟨e2, e3⟩

end Go.Proofs.Ytgpakmcboppfhaa
