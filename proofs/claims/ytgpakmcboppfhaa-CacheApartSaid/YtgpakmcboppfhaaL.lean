/- slices.Index, Delete, Insert and Clone on a set of a cache: what is returned, and which row is touched. -/
import Derived.Test.YtgpakmcboppfhaaShelf
import Derived.Test.YtgpakmcboppfhaaM
import Derived.Shelf.Spec.SlicesInsert
import Derived.Shelf.Spec.SlicesInsertGrow
namespace Go.Proofs.Ytgpakmcboppfhaa
set_option linter.unusedVariables false
set_option linter.unusedSimpArgs false
open Go.RowKit

theorem idxFrom_contains (x : Int) : ∀ (zs : List Int) (i : Nat), Lib.idxFrom zs x i = if zs.contains x then ((i + zs.idxOf x : Nat) : Int) else -1
  | [], i => by simp [Lib.idxFrom]
  | z :: zs, i => by
    unfold Lib.idxFrom
    by_cases h : z = x
    · subst h; simp
    · rw [if_neg h, idxFrom_contains x zs (i + 1)]
      have h' : ¬ x = z := fun e => h e.symm
      simp only [List.contains_cons, beq_eq_false_iff_ne.2 h', Bool.false_or, List.idxOf_cons, beq_eq_false_iff_ne.2 h, cond_false]
      split <;> simp <;> omega

/-- What a look for a line in a set tells: its place, or -1. -/
def ageOf (xs : List Int) (l : Int) : Int := if xs.contains l then (xs.idxOf l : Int) else -1

theorem index_set (w : World) (v : Value) (xs : List Int) (x : Int) (h : SetV w v xs) (hx : xs.length ≤ maxLen) :
    Calls Try.prog 33 #[v, .int .i64 x] w fun e w' => e = .returned (.int .i64 (ageOf xs x)) ∧ w = w' := by
  have e : Lib.idxOf xs x = ageOf xs x := by unfold Lib.idxOf ageOf; rw [idxFrom_contains]; simp
  rcases h with ⟨rfl, rfl⟩ | ⟨g, cap, rfl, hr⟩
  · refine (Try.slices_Index_int_empty none 0 x w).mono ?_
    rintro _ _ ⟨rfl, rfl⟩
    exact ⟨by rw [← e], rfl⟩
  · refine (Try.slices_Index_int g 0 xs.length cap xs x w (Nat.le_refl _) (by unfold maxLen at hx; omega) (fun j hj => by rw [Nat.zero_add]; exact hr.cell j hj)).mono ?_
    rintro _ _ ⟨rfl, rfl⟩
    exact ⟨by rw [← e, List.take_length], rfl⟩

/-- Behind a write of the head of a row: its cells. -/
theorem row_written {w w' : World} {g cap : Nat} {c c' : Array Value} {ys : List Int} (h : w.heap[g]? = some (.cells c 3 (0, 0))) (h' : w'.heap[g]? = some (.cells c' 3 (0, 0))) (hs : c'.size = cap)
    (hl : ys.length ≤ cap) (hm : cap ≤ maxLen) (hc : ∀ j, j < ys.length → c'[j]? = some (.int .i64 (ys.getD j 0))) : RowAt w' g cap ys := ⟨c', h', hs, hl, hm, hc⟩

theorem delete_set (w : World) (v : Value) (xs : List Int) (i : Nat) (hi : i < xs.length) (h : SetV w v xs) :
    Calls Try.prog 34 #[v, .int .i64 (i : Int), .int .i64 ((i : Int) + 1)] w fun e w' => ∃ v', e = .returned v' ∧ SetV w' v' (xs.eraseIdx i) ∧ v'.ownBlock = v.ownBlock ∧ Chg (own v) w w' := by
  rcases h with ⟨rfl, rfl⟩ | ⟨g, cap, rfl, hr⟩
  · simp at hi
  · have hr0 := hr
    obtain ⟨cur, h1, h2, h3, h4, h5⟩ := hr0
    have hm := h4
    have hown : own (.slice (some ⟨g, 0, none⟩) xs.length cap) g := rfl
    unfold maxLen at hm
    have := Try.slices_Delete_int_cells g 0 xs.length cap i (i + 1) xs w (Nat.le_refl _) h3 (by omega) (by omega) (by omega) (fun j hj => by rw [Nat.zero_add]; exact hr.cell j hj) (fun j _ => by rw [Nat.zero_add]; exact hr.free j)
    refine this.mono ?_
    rintro e w' ⟨rfl, q, rfl⟩
    have hl : xs.length - (i + 1 - i) = (xs.eraseIdx i).length := by rw [List.length_eraseIdx, if_pos hi]; omega
    rw [hl]
    refine ⟨_, rfl, .inr ⟨g, cap, rfl, ?_⟩, rfl, Chg.setCells (F := own _) g (.inl hown) _ _ _ ((Chg.refl _ w).drewN q)⟩
    obtain ⟨c', a1, a2, a3⟩ := setCells_at g ((((xs.take xs.length).take i ++ (xs.take xs.length).drop (i + 1) ++ List.replicate (i + 1 - i) 0).map (Value.int .i64))) 0 (w.drewN q) cur 3 (0, 0) h1
    refine ⟨c', a1, by rw [a2, h2], by rw [← hl]; omega, h4, fun j hj => ?_⟩
    rw [← hl] at hj
    rw [a3 j, if_pos ⟨Nat.zero_le _, by simp; omega, by omega⟩, Nat.sub_zero, List.getElem?_map, List.eraseIdx_eq_take_drop_succ]
    rw [List.take_length]
    rw [List.getElem?_append_left (by simp; omega)]
    rw [List.getD_eq_getElem?_getD]
    rw [List.getElem?_eq_getElem (by simp; omega)]
    simp


theorem one_ints (l : List Int) : ∀ v ∈ l.map (Value.int .i64), v.oneCell' = true := by
  intro v hv
  obtain ⟨n, _, rfl⟩ := List.mem_map.1 hv
  rfl

theorem getElem?_ints {xs : List Int} {j : Nat} {v : Value} (h : (xs.map (Value.int .i64))[j]? = some v) : j < xs.length ∧ v = .int .i64 (xs.getD j 0) := by
  rw [List.getElem?_map] at h
  have hj : j < xs.length := by
    rcases Nat.lt_or_ge j xs.length with h1 | h1
    · exact h1
    · rw [List.getElem?_eq_none h1] at h; simp at h
  rw [List.getElem?_eq_getElem hj] at h
  simp at h
  refine ⟨hj, ?_⟩
  rw [List.getD_eq_getElem?_getD, List.getElem?_eq_getElem hj]
  simpa using h.symm

/-- slices.Insert(s, 0, x) on a short row. -/
theorem insert_set (w : World) (v : Value) (xs : List Int) (x : Int) (vb : Nat) (h : SetV w v xs) (hlen : xs.length ≤ 64) (hvb : w.heap[vb]? = some (.cells #[.int .i64 x] 3 (0, 0))) (hne : ∀ k, own v k → vb ≠ k) :
    Calls Try.prog 35 #[v, .int .i64 0, .slice (some ⟨vb, 0, none⟩) 1 1] w fun e w' => ∃ v', e = .returned v' ∧ SetV w' v' (x :: xs) ∧ (∀ k, own v' k → own v k ∨ w.heap.size ≤ k) ∧ Chg (own v) w w' := by
  have hvs : ∀ j v, [Value.int .i64 x][j]? = some v → w.cell? ⟨vb, 0 + j, none⟩ = some v := by
    intro j u hu
    cases j with
    | zero => simp at hu; simp [World.cell?, hvb, hu]
    | succ j => simp at hu
  have h1v : ∀ v ∈ [Value.int .i64 x], v.oneCell' = true := by simp; rfl
  have grow : ∀ (base : Option Addr) (n c : Nat), n = 0 → n ≤ c → c < n + 1 → (base = none → n = 0) → xs = [] → (v = .slice base n c) →
      Calls Try.prog 35 #[v, .int .i64 0, .slice (some ⟨vb, 0, none⟩) 1 1] w fun e w' => ∃ v', e = .returned v' ∧ SetV w' v' (x :: xs) ∧ (∀ k, own v' k → own v k ∨ w.heap.size ≤ k) ∧ Chg (own v) w w' := by
    intro base n c hn hc1 hc2 hb hxs hv
    subst hn hxs hv
    have hT : Try.laysIns_ren.t 3 = 3 := rfl
    refine (Any2.slices_Insert_int_end_grow Try.laysIns base 0 c vb 0 1 1 [] [Value.int .i64 x] w (by omega) hc1 hc2 (by omega) rfl rfl hb (by simp) hvs h1v).mono ?_
    intro e w' hh
    rw [hT] at hh
    obtain ⟨rfl, rfl⟩ := hh
    have g1 := grownCap_ge w (0 + 1) c 3
    have g2 := grownCap_le_maxLen w (0 + 1) c 3 (by unfold maxLen; omega)
    refine ⟨_, rfl, .inr ⟨w.heap.size, _, rfl, ?_⟩, ?_, (Chg.refl _ w).drew.alloc _⟩
    · refine ⟨_, heap_alloc_new w.drew _, ?_, g1, g2, ?_⟩
      · show (_ ++ Builtin.zeroCells (Value.int .i64 0).cells (grownCap w (0 + 1) c 3 - (0 + 1))).size = grownCap w (0 + 1) c 3
        simp only [Array.size_append, List.size_toArray, size_zeroCells, Value.cells, List.length_append, List.length_nil, List.length_cons, List.size_toArray]
        omega
      · intro j hj
        have : j = 0 := by simp at hj; omega
        subst this
        rw [Array.getElem?_append_left (by simp)]
        rfl
    · intro k hk
      simp [own, Value.ownBlock] at hk
      right; omega
  rcases h with ⟨rfl, rfl⟩ | ⟨g, cap, rfl, hr⟩
  · exact grow none 0 0 rfl (by omega) (by omega) (fun _ => rfl) rfl rfl
  · have hr0 := hr
    obtain ⟨cur, h1, h2, h3, h4, h5⟩ := hr0
    have hm := h4
    have hown : own (.slice (some ⟨g, 0, none⟩) xs.length cap) g := rfl
    unfold maxLen at hm
    have hvg : vb ≠ g := hne g rfl
    by_cases hn : xs.length = 0
    · have hx : xs = [] := List.length_eq_zero_iff.1 hn
      by_cases hc : cap = 0
      · subst hx
        exact grow (some ⟨g, 0, none⟩) 0 cap rfl (by omega) (by omega) (by simp) rfl rfl
      · subst hx
        refine (Any2.slices_Insert_int_end_room Try.laysIns g 0 0 cap vb 0 1 1 [Value.int .i64 x] w (by omega) (by omega) (by omega) rfl (fun j hj => hr.has _ (by omega)) (fun j _ => hr.free _) hvs h1v).mono ?_
        rintro e w' ⟨rfl, rfl⟩
        obtain ⟨c', a1, a2, a3⟩ := setCells_at g [Value.int .i64 x] (0 + 0) w cur 3 (0, 0) h1
        refine ⟨_, rfl, .inr ⟨g, cap, rfl, c', a1, by omega, by simp; omega, h4, ?_⟩, fun k hk => .inl hk, Chg.setCells (F := own _) g (.inl hown) _ _ _ (Chg.refl _ w)⟩
        intro j hj
        have : j = 0 := by simp at hj; omega
        subst this
        rw [a3 0, if_pos (by simp; omega)]
        rfl
    · by_cases hc : xs.length + 1 ≤ cap
      · refine (Any2.slices_Insert_int_shift Try.laysIns g 0 xs.length cap 0 vb 0 1 1 (xs.map (Value.int .i64)) [Value.int .i64 x] w (by omega) (by omega) hc (by omega) hvg (by simp) rfl
          (fun j v hj => by obtain ⟨k1, rfl⟩ := getElem?_ints hj; rw [Nat.zero_add]; exact hr.cell j k1) (fun j hj => hr.has _ (by omega)) (fun j _ => hr.free _) hvs (one_ints xs) h1v 3 3 1 cap (by simp [World.shape?, hvb]) hr.shape (by omega)
          (by simp [World.frozen?, hvb]) (by simp [World.frozen?, hvb])).mono ?_
        rintro e w' ⟨rfl, rfl⟩
        obtain ⟨c1, a1, a2, a3⟩ := setCells_at g ((xs.map (Value.int .i64)).drop 0) (0 + (0 + 1)) w.drew cur 3 (0, 0) h1
        obtain ⟨c2, b1, b2, b3⟩ := setCells_at g [Value.int .i64 x] (0 + 0) _ c1 3 (0, 0) a1
        refine ⟨_, rfl, .inr ⟨g, cap, rfl, c2, b1, by omega, by simp; omega, h4, ?_⟩, fun k hk => .inl hk, Chg.setCells (F := own _) g (.inl hown) _ _ _ (Chg.setCells (F := own _) g (.inl hown) _ _ _ (Chg.refl _ w).drew)⟩
        intro j hj
        rw [b3 j, a3 j]
        cases j with
        | zero => rw [if_pos (by simp; omega)]; rfl
        | succ j =>
          simp at hj
          rw [if_neg (by simp), if_pos (by simp; omega), show j + 1 - (0 + (0 + 1)) = j by omega, List.drop_zero, List.getElem?_map, List.getElem?_eq_getElem hj]
          simp [hj]
      · have hcc : cap = xs.length := by omega
        refine (Any2.slices_Insert_int_grow Try.laysIns g 0 xs.length cap 0 vb 0 1 1 (xs.map (Value.int .i64)) [Value.int .i64 x] w (by omega) (by omega) (by omega) (by omega) (by omega) (by simp) rfl
          (fun j v hj => by obtain ⟨k1, rfl⟩ := getElem?_ints hj; rw [Nat.zero_add]; exact hr.cell j k1) hvs (one_ints xs) h1v).mono ?_
        intro e w' hh
        rw [show Try.laysIns_ren.t 3 = 3 from rfl] at hh
        obtain ⟨rfl, rfl⟩ := hh
        have g1 := grownCap_ge w (xs.length + 1) cap 3
        have g2 := grownCap_le_maxLen w (xs.length + 1) cap 3 (by unfold maxLen; omega)
        generalize hG : grownCap w (xs.length + 1) cap 3 = G at *
        obtain ⟨c1, a1, a2, a3⟩ := setCells_at w.heap.size [Value.int .i64 x] 0 _ _ 3 (0, 0) (show (w.alloc (.cells (((xs.map (Value.int .i64)).take 0).toArray ++ Builtin.zeroCells (Value.int .i64 0).cells (xs.length + 1 - 0) ++ Builtin.zeroCells (Value.int .i64 0).cells (G - (xs.length + 1))) 3)).drew.heap[w.heap.size]? = _ from heap_alloc_new w _)
        obtain ⟨c2, b1, b2, b3⟩ := setCells_at w.heap.size ((xs.map (Value.int .i64)).drop 0) (0 + 1) _ c1 3 (0, 0) (show (World.setCells _ w.heap.size 0 [Value.int .i64 x]).drew.heap[w.heap.size]? = _ from a1)
        have hs1 : c1.size = G := by
          rw [a2]
          simp [size_zeroCells, Value.cells]
          omega
        refine ⟨_, rfl, .inr ⟨w.heap.size, G, rfl, c2, b1, by omega, g1, g2, ?_⟩, ?_, ?_⟩
        · intro j hj
          rw [b3 j, a3 j]
          cases j with
          | zero => rw [if_neg (by omega), if_pos ⟨Nat.le_refl _, by simp, by rw [← a2]; omega⟩]; rfl
          | succ j =>
            simp at hj
            rw [if_pos (by simp; omega), show j + 1 - (0 + 1) = j by omega, List.drop_zero, List.getElem?_map, List.getElem?_eq_getElem hj]
            simp [hj]
        · intro k hk
          simp [own, Value.ownBlock] at hk
          right; omega
        · exact Chg.setCells _ (.inr (Nat.le_refl _)) _ _ _ (Chg.drew (Chg.setCells _ (.inr (Nat.le_refl _)) _ _ _ (Chg.drew ((Chg.refl _ w).alloc _))))

/-- slices.Clone of a set. -/
theorem clone_set (w : World) (v : Value) (xs : List Int) (h : SetV w v xs) (hz : xs = [] → v = .slice none 0 0) (hlen : xs.length ≤ 64) :
    Calls Try.prog 36 #[v] w fun e w' => ∃ v', e = .returned v' ∧ SetV w' v' xs ∧ (xs = [] → v' = .slice none 0 0) ∧ (∀ k, own v' k → w.heap.size ≤ k) ∧ Below w.heap.size w w' := by
  rcases h with ⟨rfl, rfl⟩ | ⟨g, cap, rfl, hr⟩
  · refine (Try.slices_Clone_int_nil 0 0 w).mono ?_
    rintro e w' ⟨rfl, rfl⟩
    exact ⟨_, rfl, .inl ⟨rfl, rfl⟩, fun _ => rfl, fun k hk => by simp [own, Value.ownBlock] at hk, Below.refl _ _⟩
  · refine (Try.slices_Clone_int g 0 xs.length cap xs w (Nat.le_refl _) (by omega) (fun j hj => by rw [Nat.zero_add]; exact hr.cell j hj)).mono ?_
    rintro e w' ⟨v', rfl, ⟨ho1, ho2⟩, hn, hb⟩
    rcases ho2 with ⟨h1, _⟩ | ⟨g', cap', cur, rfl, hg', hh, hl, hm, hs, ht⟩
    · exact absurd h1 hn
    · refine ⟨_, rfl, .inr ⟨g', cap', rfl, cur, hh, by omega, hl, hm, fun j hj => ?_⟩, fun he => ?_, fun k hk => ?_, hb⟩
      · have : (cur.toList.take (xs.length * 1))[j]? = ((xs.take xs.length).map (Value.int .i64))[j]? := by rw [ht]
        rw [List.getElem?_take, if_pos (by omega), List.take_length, List.getElem?_map, List.getElem?_eq_getElem hj] at this
        rw [← Array.getElem?_toList, this, List.getD_eq_getElem?_getD, List.getElem?_eq_getElem hj]
        rfl
      · exact absurd (hz he) (by simp)
      · simp [own, Value.ownBlock] at hk; omega

end Go.Proofs.Ytgpakmcboppfhaa
