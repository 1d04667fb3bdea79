/- The example of the chapter: awake returns true. -/
import Derived.Test.YtgpakmcboppfhaaH
namespace Go.Proofs.Ytgpakmcboppfhaa
set_option linter.unusedVariables false
set_option linter.unusedSimpArgs false
open Go.RowKit

theorem keep3 {w W w1 : World} {a0 a1 a2 : Addr} {v0 v1 v2 : Value} (hb : Below W.heap.size W w1)
    (h : W.cell? a0 = some v0 ∧ W.cell? a1 = some v1 ∧ W.cell? a2 = some v2 ∧ Below w.heap.size w W) :
    w1.cell? a0 = some v0 ∧ w1.cell? a1 = some v1 ∧ w1.cell? a2 = some v2 ∧ Below w.heap.size w w1 :=
  ⟨cell_kept hb h.1, cell_kept hb h.2.1, cell_kept hb h.2.2.1, h.2.2.2.trans (hb.mono h.2.2.2.size)⟩

/-- The law's own box stands while blocks above it are written. -/
theorem keepC {F : Nat → Prop} {w W w1 : World} {v0 v1 v2 : Value} (hc : Chg F W w1) (hF : ∀ k, F k → w.heap.size < k)
    (h : W.cell? ⟨w.heap.size, 0, none⟩ = some v0 ∧ W.cell? ⟨w.heap.size, 1, none⟩ = some v1 ∧ W.cell? ⟨w.heap.size, 2, none⟩ = some v2 ∧ Below w.heap.size w W) :
    w1.cell? ⟨w.heap.size, 0, none⟩ = some v0 ∧ w1.cell? ⟨w.heap.size, 1, none⟩ = some v1 ∧ w1.cell? ⟨w.heap.size, 2, none⟩ = some v2 ∧ Below w.heap.size w w1 := by
  have hlt : w.heap.size < W.heap.size := World.block_lt_of_cell? W _ h.1
  have hb : w1.heap[w.heap.size]? = W.heap[w.heap.size]? := hc.block _ hlt (fun hk => by have := hF _ hk; omega)
  exact ⟨(World.cell?_of_block (w := W) hb).trans h.1, (World.cell?_of_block (w := W) hb).trans h.2.1, (World.cell?_of_block (w := W) hb).trans h.2.2.1, hc.toBelow h.2.2.2 (fun k hk => by have := hF k hk; omega)⟩

theorem TableAt.nth {w : World} {sb : Nat} {vs : List Value} {xss : List (List Int)} (h : TableAt w sb vs xss) {i : Nat} {xs : List Int} (hx : xss[i]? = some xs) : ∃ a c, vs[i]? = some (.slice a xs.length c) ∧ w.cell? ⟨sb, i, none⟩ = some (.slice a xs.length c) ∧ ArgI w.heap.size w a xs := by
  have hlt : i < vs.length := by rw [← h.same]; exact (List.getElem?_eq_some_iff.1 hx).1
  have hv : vs[i]? = some vs[i] := List.getElem?_eq_getElem hlt
  obtain ⟨a, c, e, ha⟩ := (h.sets i _ xs hv hx).1.arg
  rw [e] at hv
  exact ⟨a, c, hv, h.at hv, ha⟩

theorem argI_new (w : World) (l : List Int) (t : TypeId) : ArgI (w.heap.size + 1) (w.alloc (.cells (l.map (Value.int .i64)).toArray t)) (some ⟨w.heap.size, 0, none⟩) l := by
  refine .inr ⟨_, 0, rfl, by omega, fun i hi => ?_⟩
  rw [Nat.zero_add, World.cell?_alloc_new, List.getElem?_toArray, List.getElem?_map, List.getElem?_eq_getElem hi, List.getD_eq_getElem?_getD, List.getElem?_eq_getElem hi]
  rfl

theorem valid124 : validB 1 2 4 = true := by decide +kernel

theorem acc_ex (s s' : List (List Int)) (a : Int) (b : Bool) (h1 : stepA 1 2 4 s a = s') (h2 : hitA 1 4 s a = b) (ha : a ≤ 9223372036854775807) {w : World} {pb : Nat} {F : Nat → Prop} (h : CacheAt w pb 1 2 4 s F) :
    Calls Try.prog 23 #[.pointer (some ⟨pb, 0, none⟩), .int .i64 a] w (Accessed w pb 1 2 4 s' F b) := by
  rw [← h1, ← h2]
  exact access_any h valid124 a ha

/-- The same with the world at the beginning. -/
def Then (W : World) (pb : Nat) (s : List (List Int)) (b : Bool) (e : Ending) (w' : World) : Prop :=
  e = .returned (.bool b) ∧ ∃ F', CacheAt w' pb 1 2 4 s F' ∧ Below W.heap.size W w' ∧ (∀ k, F' k → W.heap.size ≤ k)

theorem acc_then (s s' : List (List Int)) (a : Int) (b : Bool) (h1 : stepA 1 2 4 s a = s') (h2 : hitA 1 4 s a = b) (ha : a ≤ 9223372036854775807) {W w : World} {pb : Nat} {F : Nat → Prop} (h : CacheAt w pb 1 2 4 s F) (hb : Below W.heap.size W w) (hF : ∀ k, F k → W.heap.size ≤ k) :
    Calls Try.prog 23 #[.pointer (some ⟨pb, 0, none⟩), .int .i64 a] w (Then W pb s' b) := by
  refine (acc_ex s s' a b h1 h2 ha h).mono ?_
  rintro e w' ⟨rfl, F', c, g, o⟩
  refine ⟨rfl, F', c, g.toBelow hb hF, fun k hk => ?_⟩
  rcases o k hk with o | o
  · exact hF k o
  · exact Nat.le_trans hb.size o

set_option maxHeartbeats 1000000 in
theorem awake_any (w : World) : Calls Try.prog 11 #[] w fun e w' => e = .returned (.bool true) ∧ Below w.heap.size w w' := by
  go_enter Try.func11, Try.ntmps11
  go_wp2_with (first | (go_at_call 12; go_must (refine (new_yes 1 2 4 _ valid124).mono ?_); rintro e w1 ⟨pb, F, rfl, hc1, hb1, hf1⟩))
  have A1 := acc_then (W := w) [[]] [[0]] 0 false (by decide +kernel) (by decide +kernel) (by decide) hc1 hb1 hf1
  clear hc1 hb1 hf1
  refine A1.mono ?_
  rintro e w2 ⟨rfl, F2, hc2, hb2, hf2⟩
  clear A1
  go_wp2_with fail
  refine (acc_then (W := w) [[0]] [[0]] 3 true (by decide +kernel) (by decide +kernel) (by decide) hc2 hb2 hf2).mono ?_
  clear hc2 hb2 hf2
  rintro e w3 ⟨rfl, F3, hc3, hb3, hf3⟩
  go_wp2_with fail
  refine (acc_then (W := w) [[0]] [[1, 0]] 4 false (by decide +kernel) (by decide +kernel) (by decide) hc3 hb3 hf3).mono ?_
  clear hc3 hb3 hf3
  rintro e w4 ⟨rfl, F4, hc4, hb4, hf4⟩
  go_wp2_with fail
  refine (acc_then (W := w) [[1, 0]] [[2, 1]] 8 false (by decide +kernel) (by decide +kernel) (by decide) hc4 hb4 hf4).mono ?_
  clear hc4 hb4 hf4
  rintro e w5 ⟨rfl, F5, hc5, hb5, hf5⟩
  go_wp2_with fail
  refine (lines_c hc5 valid124).mono ?_
  rintro e w6 ⟨ob, us, rfl, ht6, hb6, hf6⟩
  have HB := Lib.hid (hb5.trans (hb6.mono hb5.size))
  obtain ⟨a, c, h1, h2, h3⟩ := ht6.nth (i := 0) (xs := [2, 1]) rfl
  have HA3 := Lib.hid h3
  have hlt := World.block_lt_of_cell? _ _ h2
  clear hc5 hb5 hf5 hb6 hf6 ht6 h1 h3
  go_wp2_with fail
  refine (ints_any a c [2, 1] _ _ [2, 1] _ (HA3.out.kept ((Below.refl _ _).alloc (Nat.le_refl _) _)) (argI_new w6 [2, 1] 3) (by decide) (by decide)).mono ?_
  rintro e w7 ⟨rfl, hb7⟩
  go_wp2_with fail
  go_ret
  exact ⟨rfl, (HB.out.alloc HB.out.size _).trans (hb7.mono (by have := HB.out.size; simp; omega))⟩

end Go.Proofs.Ytgpakmcboppfhaa
