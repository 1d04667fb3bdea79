/- An access to a cache. -/
import Derived.Test.YtgpakmcboppfhaaC
namespace Go.Proofs.Ytgpakmcboppfhaa
set_option linter.unusedVariables false
set_option linter.unusedSimpArgs false
open Go.RowKit

section
variable {w : World} {pb sb : Nat} {S W L : Int} {vs : List Value} {xss : List (List Int)}
/-- One set is changed, and its slice is stored. -/
theorem CacheIn.put (h : CacheIn w pb sb S W L vs xss) {i : Nat} {v v' : Value} {ys : List Int} (hi : vs[i]? = some v) {w2 : World} (hc : Chg (own v) w w2) (hset : SetV w2 v' ys)
    (hown : ∀ k, own v' k → own v k ∨ w.heap.size ≤ k) :
    CacheIn (w2.setCell ⟨sb, i, none⟩ v') pb sb S W L (vs.set i v') (xss.set i ys) ∧ Chg (foot pb sb vs) w (w2.setCell ⟨sb, i, none⟩ v') ∧ (∀ k, foot pb sb (vs.set i v') k → foot pb sb vs k ∨ w.heap.size ≤ k) := by
  have hlt : i < vs.length := (List.getElem?_eq_some_iff.1 hi).1
  have hnp : ∀ k, own v k → k ≠ pb ∧ k ≠ sb := fun k hk => h.far i v k hi hk
  have hpb : pb < w.heap.size := h.foot_lt pb (.inl rfl)
  have hsb : sb < w.heap.size := h.foot_lt sb (.inr (.inl rfl))
  have e1 : w2.heap[pb]? = w.heap[pb]? := hc.block pb hpb (fun hk => (hnp pb hk).1 rfl)
  have e2 : w2.heap[sb]? = w.heap[sb]? := hc.block sb hsb (fun hk => (hnp sb hk).2 rfl)
  have e3 : (w2.setCell ⟨sb, i, none⟩ v').heap[pb]? = w.heap[pb]? := (Below.heap_setCell _ _ _ _ h.apart).trans e1
  have ownLt : ∀ j u k, vs[j]? = some u → own u k → k < w.heap.size := fun j u k hj hk => h.foot_lt k (.inr (.inr ⟨j, u, hj, hk⟩))
  refine ⟨⟨?_, ?_, ?_, ?_, h.apart, ?_, ?_, ?_⟩, ?_, ?_⟩
  · rw [e3, List.length_set]; exact h.head
  · rw [heap_setCell_self _ _ _ _ _ _ _ (e2.trans h.table)]; simp
  · rw [List.length_set]; exact h.count
  · rw [List.length_set, List.length_set]; exact h.same
  · intro j u xs hj hx
    rw [List.getElem?_set] at hj hx
    by_cases hij : i = j
    · subst hij
      rw [if_pos rfl, if_pos hlt] at hj
      rw [if_pos rfl, if_pos (by rw [h.same]; exact hlt)] at hx
      cases hj; cases hx
      refine hset.congr fun k hk => Below.heap_setCell _ _ _ _ ?_
      rcases hown k hk with h1 | h1
      · exact (hnp k h1).2
      · show k ≠ sb; omega
    · rw [if_neg hij] at hj hx
      refine (h.sets j u xs hj hx).congr fun k hk => ?_
      have hks := (h.far j u k hj hk).2
      rw [Below.heap_setCell _ _ _ _ hks]
      exact hc.block k (ownLt j u k hj hk) (fun hk' => hij (h.lone i j v u k hi hj hk' hk))
  · intro j u k hj hk
    rw [List.getElem?_set] at hj
    by_cases hij : i = j
    · subst hij
      rw [if_pos rfl, if_pos hlt] at hj
      cases hj
      rcases hown k hk with h1 | h1
      · exact hnp k h1
      · exact ⟨by omega, by omega⟩
    · rw [if_neg hij] at hj
      exact h.far j u k hj hk
  · intro j1 j2 u1 u2 k h1 h2 k1 k2
    rw [List.getElem?_set] at h1 h2
    by_cases a1 : i = j1
    · by_cases a2 : i = j2
      · omega
      · rw [if_pos a1, if_pos hlt] at h1
        rw [if_neg a2] at h2
        cases h1
        rcases hown k k1 with o | o
        · exact absurd (h.lone i j2 v u2 k hi h2 o k2) a2
        · have := ownLt j2 u2 k h2 k2; omega
    · by_cases a2 : i = j2
      · rw [if_pos a2, if_pos hlt] at h2
        rw [if_neg a1] at h1
        cases h2
        rcases hown k k2 with o | o
        · exact absurd (h.lone i j1 v u1 k hi h1 o k1) a1
        · have := ownLt j1 u1 k h1 k1; omega
      · rw [if_neg a1] at h1
        rw [if_neg a2] at h2
        exact h.lone j1 j2 u1 u2 k h1 h2 k1 k2
  · refine Chg.setCell (hc.mono fun k hk => .inr (.inr ⟨i, v, hi, hk⟩)) _ _ (.inl (.inr (.inl rfl)))
  · intro k hk
    rcases hk with rfl | rfl | ⟨j, u, hj, hk⟩
    · exact .inl (.inl rfl)
    · exact .inl (.inr (.inl rfl))
    · rw [List.getElem?_set] at hj
      by_cases hij : i = j
      · subst hij
        rw [if_pos rfl, if_pos hlt] at hj
        cases hj
        rcases hown k hk with o | o
        · exact .inl (.inr (.inr ⟨i, v, hi, o⟩))
        · exact .inr o
      · rw [if_neg hij] at hj
        exact .inl (.inr (.inr ⟨j, u, hj, hk⟩))
end

theorem access_neg (pb : Nat) (a : Int) (w : World) (h0 : a < 0) :
    Calls Try.prog 23 #[.pointer (some ⟨pb, 0, none⟩), .int .i64 a] w fun e w' => e = .returned (.bool false) ∧ w = w' := by
  go_enter Try.func23, Try.ntmps23
  go_wp2_with fail
  go_ret
  exact ⟨rfl, rfl⟩

theorem access_nil (a : Int) (w : World) :
    Calls Try.prog 23 #[.pointer none, .int .i64 a] w fun e w' => e = .returned (.bool false) ∧ w = w' := by
  go_enter Try.func23, Try.ntmps23
  go_wp2_with fail
  go_ret
  exact ⟨rfl, rfl⟩

section
variable {w : World} {pb sb : Nat} {S W L : Int} {vs : List Value} {xss : List (List Int)}
/-- While one set's row is written the cache's own two blocks stand. -/
theorem CacheIn.stand (h : CacheIn w pb sb S W L vs xss) {i : Nat} {v : Value} (hi : vs[i]? = some v) {w2 : World} (hc : Chg (own v) w w2) :
    w2.cell? ⟨sb, i, none⟩ = some v ∧ w2.frozen? ⟨sb, i, none⟩ = false ∧ w2.cell? ⟨pb, 1, none⟩ = some (.int .i64 W) := by
  have hnp : ∀ k, own v k → k ≠ pb ∧ k ≠ sb := fun k hk => h.far i v k hi hk
  have e1 : w2.heap[pb]? = w.heap[pb]? := hc.block pb (h.foot_lt pb (.inl rfl)) (fun hk => (hnp pb hk).1 rfl)
  have e2 : w2.heap[sb]? = w.heap[sb]? := hc.block sb (h.foot_lt sb (.inr (.inl rfl))) (fun hk => (hnp sb hk).2 rfl)
  exact ⟨(World.cell?_of_block (w := w) e2).trans (h.at hi), (World.frozen?_of_block (w := w) e2).trans (h.sf i), (World.cell?_of_block (w := w) e1).trans h.p1⟩
end

theorem set_same {α : Type} {l : List α} {i : Nat} {x : α} (h : l[i]? = some x) : l.set i x = l := by
  obtain ⟨hi, rfl⟩ := List.getElem?_eq_some_iff.1 h
  exact List.set_getElem_self hi

theorem CacheIn.drewN {w : World} {pb sb : Nat} {S W L : Int} {vs : List Value} {xss : List (List Int)} (h : CacheIn w pb sb S W L vs xss) (n : Nat) : CacheIn (w.drewN n) pb sb S W L vs xss := h.congr fun _ _ => rfl

/-- The set is cut to its first W lines. -/
theorem CacheIn.cut {w : World} {pb sb : Nat} {S W L : Int} {vs : List Value} {xss : List (List Int)} {i g k N : Nat} {ys : List Int} (hi : i < vs.length) (hN : ys.length = N)
    (h : CacheIn w pb sb S W L (vs.set i (.slice (some ⟨g, 0, none⟩) N k)) (xss.set i ys)) (n : Nat) (hn : n ≤ N) :
    CacheIn (w.setCell ⟨sb, i, none⟩ (.slice (some ⟨g, 0, none⟩) n k)) pb sb S W L (vs.set i (.slice (some ⟨g, 0, none⟩) n k)) (xss.set i (ys.take n)) ∧
      Chg (foot pb sb (vs.set i (.slice (some ⟨g, 0, none⟩) N k))) w (w.setCell ⟨sb, i, none⟩ (.slice (some ⟨g, 0, none⟩) n k)) := by
  have hi1 : (vs.set i (.slice (some ⟨g, 0, none⟩) N k))[i]? = some (.slice (some ⟨g, 0, none⟩) N k) := by rw [List.getElem?_set, if_pos rfl, if_pos hi]
  have hs := h.same
  rw [List.length_set, List.length_set] at hs
  have hx1 : (xss.set i ys)[i]? = some ys := by rw [List.getElem?_set, if_pos rfl, if_pos (by omega)]
  rcases h.sets i _ _ hi1 hx1 with ⟨h1, _⟩ | ⟨g', k', h1, hr⟩
  · cases h1
  · cases h1
    obtain ⟨a, b, c⟩ := h.put hi1 (Chg.refl _ w) (v' := .slice (some ⟨g, 0, none⟩) n k) (ys := ys.take n) (.inr ⟨g, k, by rw [List.length_take, Nat.min_eq_left (by omega)], hr.take n⟩) (fun k hk => .inl hk)
    rw [List.set_set, List.set_set] at a
    exact ⟨a, b⟩

set_option maxHeartbeats 2000000 in
theorem access_at {w : World} {pb sb : Nat} {S W L : Int} {vs : List Value} {xss : List (List Int)} (h : CacheIn w pb sb S W L vs xss) (ht : Tidy W vs xss) (hv : validB S W L = true) (a : Int) (h0 : 0 ≤ a) (ha : a ≤ 9223372036854775807)
    (v : Value) (xs : List Int) (hvi : vs[setN S (a / L)]? = some v) (hxi : xss[setN S (a / L)]? = some xs) :
    Calls Try.prog 23 #[.pointer (some ⟨pb, 0, none⟩), .int .i64 a] w fun e w' => e = .returned (.bool (xs.contains (a / L))) ∧
      ∃ v', CacheIn w' pb sb S W L (vs.set (setN S (a / L)) v') (xss.set (setN S (a / L)) ((a / L :: xs.erase (a / L)).take W.toNat)) ∧ Chg (foot pb sb vs) w w' ∧ (∀ k, own v' k → own v k ∨ w.heap.size ≤ k) := by
  have p0 := h.p0
  have p1 := h.p1
  have p2 := h.p2
  have p3 := h.p3
  have q := h.at hvi
  have hS := h.sets _ _ _ hvi hxi
  obtain ⟨hz, hw⟩ := ht _ _ _ hvi hxi
  obtain ⟨s1, s2, w1, w2, l1, l2⟩ := validB_range hv
  have d0 : 0 ≤ a / L := Int.ediv_nonneg h0 (by omega)
  have d1 : a / L ≤ 9223372036854775807 := Int.le_trans (Int.ediv_le_self _ h0) ha
  have hvl : (setN S (a / L) : Int) < (vs.length : Int) := by rw [h.count]; exact setN_lt _ hv
  have hlen : xs.length ≤ maxLen := by unfold maxLen; omega
  have hbig : (vs.length : Int) ≤ 64 := by rw [h.count]; exact s2
  have HL := Lib.hid (fun w => line_val S W L a w hv h0 ha)
  have HSET := Lib.hid (fun w => set_val S W L (a / L) w hv d0 d1)
  obtain ⟨g, hg⟩ : ∃ g : Int, ageOf xs (a / L) = g := ⟨_, rfl⟩
  have HIDX := Lib.hid (fun w (hS : SetV w v xs) => (hg ▸ index_set w v xs (a / L) hS hlen : Calls Try.prog 33 #[v, .int .i64 (a / L)] w fun e w' => e = .returned (.int .i64 g) ∧ w = w'))
  have HG := Lib.hid hg
  clear hg
  have HH := Lib.hid h
  have HX := Lib.hid hxi
  have HV := Lib.hid hvi
  generalize setN S (a / L) = i at *
  generalize a / L = l at *
  clear h ht hv hxi hz hvi
  go_enter Try.func23, Try.ntmps23
  go_wp2_with (first | (go_at_call 15; refine (HL.out _).mono ?_; rintro e w3 ⟨rfl, hb3⟩; obtain ⟨hc3, hf3⟩ := bcell hb3))
  have hb3' := HH.out.below hb3
  have r0 := hb3'.p0
  have r1 := hb3'.p1
  have r2 := hb3'.p2
  have r3 := hb3'.p3
  have rq := hb3'.at HV.out
  clear hb3'
  have rS : SetV w3.drew v xs := (show SetV w3 v xs from hS.below hb3)
  have rB : Below w.heap.size w w3.drew := hb3.drew
  go_region_held3 (fun w' => w'.cell? ⟨pb, 0, none⟩ = some (.int .i64 S) ∧ w'.cell? ⟨pb, 1, none⟩ = some (.int .i64 W) ∧ w'.cell? ⟨pb, 2, none⟩ = some (.int .i64 L) ∧ w'.cell? ⟨pb, 3, none⟩ = some (.slice (some ⟨sb, 0, none⟩) vs.length vs.length) ∧ w'.cell? ⟨sb, i, none⟩ = some v ∧ SetV w' v xs ∧ Below w.heap.size w w')
    (first | exact ⟨r0, r1, r2, r3, rq, rS, rB⟩ | assumption | exact keepA hb1 (by assumption))
    (first | (go_at_call 17; refine (HSET.out _).mono ?_; rintro e w1 ⟨rfl, hb1⟩))
  obtain ⟨q0, q1, q2, q3, q4, q5, q6⟩ := ‹_ ∧ _ ∧ _ ∧ _ ∧ _ ∧ _ ∧ _›
  go_upto_if 37 with (first | (go_at_call 33; go_must (refine (HIDX.out _ (by assumption)).mono ?_); rintro e w2 ⟨rfl, rfl⟩))
  go_cut [] (fun wx => ∃ v', CacheIn wx pb sb S W L (vs.set i v') (xss.set i (xs.erase l)) ∧ Chg (foot pb sb vs) w wx ∧ (∀ k, own v' k → own v k ∨ w.heap.size ≤ k))
  case first =>
    have HC1 := Lib.hid (HH.out.below q6)
    have HG1 := Lib.hid (Chg.below (F := foot pb sb vs) q6)
    by_cases hc : xs.contains l = true
    · have hg := HG.out
      clear HG
      obtain ⟨j, hj, hjl, he⟩ : ∃ j : Nat, ageOf xs l = (j : Int) ∧ (j : Int) < (xs.length : Int) ∧ xs.eraseIdx j = xs.erase l := by
        refine ⟨xs.idxOf l, by unfold ageOf; rw [if_pos hc], ?_, ?_⟩
        · have := List.idxOf_lt_length_iff.2 (List.contains_iff_mem.1 hc); omega
        · rw [List.erase_eq_eraseIdx_of_idxOf rfl]
      obtain rfl : (j : Int) = g := hj.symm.trans hg
      clear hj hg
      have HD := Lib.hid (fun (w : World) (h : SetV w v xs) => (he ▸ delete_set w v xs j (by omega) h : Calls Try.prog 34 #[v, .int .i64 (j : Int), .int .i64 ((j : Int) + 1)] w fun e w' => ∃ v', e = .returned v' ∧ SetV w' v' (xs.erase l) ∧ v'.ownBlock = v.ownBlock ∧ Chg (own v) w w'))
      clear he hc
      go_wp2_with (first | (go_at_call 34; go_must (refine (HD.out _ (by assumption)).mono ?_); rintro e w5 ⟨v5, rfl, hs5, ho5, hg5⟩; obtain ⟨t1, t2, t3⟩ := HC1.out.stand HV.out hg5; obtain ⟨b5, k5, rfl⟩ := hs5.isSlice))
      go_meet
      obtain ⟨a1, a2, a3⟩ := HC1.out.put HV.out hg5 hs5 (fun k hk => .inl (by unfold own at *; rw [← ho5]; exact hk))
      exact ⟨_, a1, HG1.out.trans a2 (fun _ h => .inl h), fun k hk => .inl (by unfold own at *; rw [← ho5]; exact hk)⟩
    · obtain rfl : -1 = g := by have hg := HG.out; unfold ageOf at hg; rw [if_neg hc] at hg; exact hg
      have he : xs.erase l = xs := List.erase_of_not_mem (fun h => hc (List.contains_iff_mem.2 h))
      have HE := Lib.hid he
      clear he hc
      go_wp2_with fail
      go_meet
      exact ⟨v, by rw [set_same HV.out, HE.out, set_same HX.out]; exact HC1.out, HG1.out, fun k hk => .inl hk⟩
  case rest =>
    obtain ⟨v1, C1, G1, O1⟩ := hcut
    have HC1 := Lib.hid C1
    have HG1 := Lib.hid G1
    have HO1 := Lib.hid O1
    have hil : i < vs.length := by omega
    have hi1 : (vs.set i v1)[i]? = some v1 := by rw [List.getElem?_set, if_pos rfl, if_pos hil]
    have hx1 : (xss.set i (xs.erase l))[i]? = some (xs.erase l) := by
      rw [List.getElem?_set, if_pos rfl, if_pos (by have := HH.out.same; omega)]
    have HI1 := Lib.hid hi1
    have HS1 := Lib.hid (C1.sets i v1 _ hi1 hx1)
    have c1 := C1.p1
    have c2 := C1.at hi1
    have c3 := C1.sf i
    have HLE := Lib.hid (show (xs.erase l).length ≤ 64 from by have := List.length_erase_le (a := l) (l := xs); omega)
    have HAL := Lib.hid (HC1.out.below ((Below.refl _ wc).alloc (Nat.le_refl _) (.cells #[.int .i64 l] 3)))
    have HIN := Lib.hid (insert_set (wc.alloc (.cells #[.int .i64 l] 3)) v1 (xs.erase l) l wc.heap.size (HS1.out.below ((Below.refl _ wc).alloc (Nat.le_refl _) _)) HLE.out (heap_alloc_new wc _) (fun k hk => by have := HS1.out.lt k hk; omega))
    clear C1 G1 O1 hi1 hx1 hil
    have hlw : ((xs.erase l).length : Int) + 1 ≤ W + 1 := by have := List.length_erase_le (a := l) (l := xs); omega
    go_wp2_with (first | (go_at_call 35; go_must (refine HIN.out.mono ?_); rintro e w5 ⟨v5, rfl, hs5, ho5, hg5⟩; obtain ⟨t1, t2, t3⟩ := HAL.out.stand HI1.out hg5; obtain ⟨hn5, _⟩ | ⟨g5, k5, rfl, hr5⟩ := id hs5))
    · exact absurd ‹_ :: _ = _› (by simp)
    obtain ⟨a1, a2, a3⟩ := HAL.out.put HI1.out hg5 hs5 ho5
    have HO5 := Lib.hid ho5
    have HA2 := Lib.hid a2
    clear ho5 a2 a3 hs5 hg5 HIN
    have hk5 : ((xs.erase l).length : Int) + 1 ≤ (k5 : Int) := by obtain ⟨_, _, _, h3, _⟩ := hr5; simp at h3; omega
    rw [List.set_set, List.set_set] at a1
    have b1 := a1.p1
    have b2 := a1.at (show (vs.set i (.slice (some ⟨g5, 0, none⟩) (l :: xs.erase l).length k5))[i]? = some _ from by rw [List.getElem?_set, if_pos rfl, if_pos (by omega)])
    have b3 := a1.sf i
    rw [List.length_cons] at b2
    have HA1 := Lib.hid a1
    have HR5 := Lib.hid hr5
    rw [List.length_cons] at HA1 HA2 HO5
    clear a1 hr5 t1 t2 t3
    generalize w5.setCell ⟨sb, i, none⟩ (.slice (some ⟨g5, 0, none⟩) ((xs.erase l).length + 1) k5) = w6 at *
    have HKK := Lib.hid hk5
    generalize hN : (xs.erase l).length = N at *
    have HN := Lib.hid hN
    clear hN
    have hres : decide (0 ≤ g) = xs.contains l := by
      have hg := HG.out
      unfold ageOf at hg
      by_cases hc : xs.contains l = true
      · rw [if_pos hc] at hg
        rw [hc, ← hg]; simp
      · rw [if_neg hc] at hg
        rw [Bool.eq_false_iff.2 hc, ← hg]; rfl
    have HRES := Lib.hid hres
    clear hres
    have hfoot : ∀ k, foot pb sb (vs.set i v1) k → foot pb sb vs k ∨ w.heap.size ≤ k := by
      intro k hk
      rcases hk with rfl | rfl | ⟨j, u, hj, hk⟩
      · exact .inl (.inl rfl)
      · exact .inl (.inr (.inl rfl))
      · rw [List.getElem?_set] at hj
        by_cases hij : i = j
        · subst hij
          rw [if_pos rfl, if_pos (by omega)] at hj
          cases hj
          rcases HO1.out k hk with o | o
          · exact .inl (.inr (.inr ⟨i, v, HV.out, o⟩))
          · exact .inr o
        · rw [if_neg hij] at hj
          exact .inl (.inr (.inr ⟨j, u, hj, hk⟩))
    have hsz : w.heap.size ≤ wc.heap.size := HG1.out.size
    have hown5 : ∀ n k, own (.slice (some ⟨g5, 0, none⟩) n k5) k → own v k ∨ w.heap.size ≤ k := by
      intro n k hk
      rcases HO5.out k hk with o | o
      · exact HO1.out k o
      · rw [World.size_alloc] at o; right; omega
    have hchg : Chg (foot pb sb vs) w w6 := HG1.out.trans (((Chg.refl _ wc).alloc _).trans HA2.out (fun _ h => .inl h)) hfoot
    have hfoot5 : ∀ k, foot pb sb (vs.set i (.slice (some ⟨g5, 0, none⟩) (N + 1) k5)) k → foot pb sb vs k ∨ w.heap.size ≤ k := by
      intro k hk
      rcases hk with rfl | rfl | ⟨j, u, hj, hk⟩
      · exact .inl (.inl rfl)
      · exact .inl (.inr (.inl rfl))
      · rw [List.getElem?_set] at hj
        by_cases hij : i = j
        · subst hij
          rw [if_pos rfl, if_pos (by omega)] at hj
          cases hj
          rcases hown5 _ k hk with o | o
          · exact .inl (.inr (.inr ⟨i, v, HV.out, o⟩))
          · exact .inr o
        · rw [if_neg hij] at hj
          exact .inl (.inr (.inr ⟨j, u, hj, hk⟩))
    have HOWN := Lib.hid hown5
    have HCHG := Lib.hid hchg
    have HFOOT := Lib.hid hfoot5
    clear hown5 hchg hfoot5 hfoot
    by_cases hb : W < (N : Int) + 1
    · have hwk : W ≤ (k5 : Int) := by omega
      go_quiet (fail)
      go_wp2
      go_region
      all_goals go_wp2
      all_goals go_ret
      all_goals
        exact ⟨ret_bool (by first | exact HRES.out | (rw [HRES.out]; simp)), _, (CacheIn.cut (by omega) (by rw [List.length_cons, HN.out]) (HA1.out.drewN _) W.toNat (by omega)).1,
          (HCHG.out.drewN _).trans (CacheIn.cut (by omega) (by rw [List.length_cons, HN.out]) (HA1.out.drewN _) W.toNat (by omega)).2 HFOOT.out, HOWN.out _⟩
    · go_quiet (fail)
      go_wp2
      go_ret
      refine ⟨ret_bool (by first | exact HRES.out | (rw [HRES.out]; simp)), .slice (some ⟨g5, 0, none⟩) (N + 1) k5, ?_, HCHG.out.drewN _, HOWN.out _⟩
      rw [List.take_of_length_le (by rw [List.length_cons, HN.out]; omega)]
      exact HA1.out.drewN _

end Go.Proofs.Ytgpakmcboppfhaa
