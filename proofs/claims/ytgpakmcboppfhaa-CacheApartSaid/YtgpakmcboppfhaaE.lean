/- The contracts of a cache's methods, with its blocks as one footprint: New, Access, Probe, Age, Flush, Lines, Clone. -/
import Derived.Test.YtgpakmcboppfhaaD
namespace Go.Proofs.Ytgpakmcboppfhaa
set_option linter.unusedVariables false
set_option linter.unusedSimpArgs false
open Go.RowKit

/-- A cache at block pb with the sets xss; F: its blocks. -/
def CacheAt (w : World) (pb : Nat) (S W L : Int) (xss : List (List Int)) (F : Nat → Prop) : Prop :=
  ∃ sb vs, CacheIn w pb sb S W L vs xss ∧ Tidy W vs xss ∧ ∀ k, F k ↔ foot pb sb vs k

def nthSet (xss : List (List Int)) (i : Nat) : List Int := xss.getD i []
def hitC (S L : Int) (xss : List (List Int)) (a : Int) : Bool := (nthSet xss (setN S (a / L))).contains (a / L)
def stepS (W : Int) (xs : List Int) (l : Int) : List Int := (l :: xs.erase l).take W.toNat
def stepC (S W L : Int) (xss : List (List Int)) (a : Int) : List (List Int) := xss.set (setN S (a / L)) (stepS W (nthSet xss (setN S (a / L))) (a / L))

section
variable {w w' : World} {pb : Nat} {S W L : Int} {xss : List (List Int)} {F G : Nat → Prop}
theorem CacheAt.lt (h : CacheAt w pb S W L xss F) : ∀ k, F k → k < w.heap.size := by
  obtain ⟨sb, vs, h1, h2, h3⟩ := h
  exact fun k hk => h1.foot_lt k ((h3 k).1 hk)
theorem CacheAt.kept (h : CacheAt w pb S W L xss F) (hc : Chg G w w') (hd : ∀ k, F k → ¬ G k) : CacheAt w' pb S W L xss F := by
  obtain ⟨sb, vs, h1, h2, h3⟩ := h
  exact ⟨sb, vs, h1.kept hc (fun k hk => hd k ((h3 k).2 hk)), h2, h3⟩
theorem CacheAt.below (h : CacheAt w pb S W L xss F) (hb : Below w.heap.size w w') : CacheAt w' pb S W L xss F := by
  obtain ⟨sb, vs, h1, h2, h3⟩ := h
  exact ⟨sb, vs, h1.below hb, h2, h3⟩
theorem CacheAt.count (h : CacheAt w pb S W L xss F) : (xss.length : Int) = S := by
  obtain ⟨sb, vs, h1, h2, h3⟩ := h
  rw [h1.same]; exact h1.count
theorem CacheAt.short (h : CacheAt w pb S W L xss F) : ∀ xs ∈ xss, (xs.length : Int) ≤ W := by
  obtain ⟨sb, vs, h1, h2, h3⟩ := h
  intro xs hx
  obtain ⟨i, hi, rfl⟩ := List.getElem_of_mem hx
  have hi' : i < vs.length := by rw [← h1.same]; exact hi
  exact (h2 i vs[i] _ (List.getElem?_eq_getElem hi') (List.getElem?_eq_getElem hi)).2

theorem CacheAt.pick (h : CacheAt w pb S W L xss F) (hv : validB S W L = true) (l : Int) :
    ∃ sb vs v, CacheIn w pb sb S W L vs xss ∧ Tidy W vs xss ∧ (∀ k, F k ↔ foot pb sb vs k) ∧ vs[setN S l]? = some v ∧ xss[setN S l]? = some (nthSet xss (setN S l)) := by
  obtain ⟨sb, vs, h1, h2, h3⟩ := h
  have hlt := setN_lt l hv
  have h4 := h1.count
  have h5 := h1.same
  have hi : setN S l < vs.length := by omega
  refine ⟨sb, vs, vs[setN S l], h1, h2, h3, List.getElem?_eq_getElem hi, ?_⟩
  unfold nthSet
  rw [List.getElem?_eq_getElem (by omega), List.getD_eq_getElem?_getD, List.getElem?_eq_getElem (by omega)]
  rfl
end

theorem stepS_ne {W : Int} (hW : 1 ≤ W) (xs : List Int) (l : Int) : stepS W xs l ≠ [] := by
  unfold stepS
  obtain ⟨n, hn⟩ : ∃ n, W.toNat = n + 1 := ⟨W.toNat - 1, by omega⟩
  rw [hn]; simp

theorem access_c {w : World} {pb : Nat} {S W L : Int} {xss : List (List Int)} {F : Nat → Prop} (h : CacheAt w pb S W L xss F) (hv : validB S W L = true) (a : Int) (h0 : 0 ≤ a) (ha : a ≤ 9223372036854775807) :
    Calls Try.prog 23 #[.pointer (some ⟨pb, 0, none⟩), .int .i64 a] w fun e w' => e = .returned (.bool (hitC S L xss a)) ∧
      ∃ F', CacheAt w' pb S W L (stepC S W L xss a) F' ∧ Chg F w w' ∧ (∀ k, F' k → F k ∨ w.heap.size ≤ k) := by
  obtain ⟨sb, vs, v, h1, h2, h3, h4, h5⟩ := h.pick hv (a / L)
  refine (access_at h1 h2 hv a h0 ha v _ h4 h5).mono ?_
  rintro e w' ⟨rfl, v', c, g, o⟩
  have hlt : setN S (a / L) < vs.length := (List.getElem?_eq_some_iff.1 h4).1
  refine ⟨rfl, foot pb sb (vs.set (setN S (a / L)) v'), ⟨sb, _, c, ?_, fun k => Iff.rfl⟩, g.mono (fun k hk => (h3 k).2 hk), ?_⟩
  · intro i u xs hi hx
    unfold stepC at *
    rw [List.getElem?_set] at hi hx
    by_cases hij : setN S (a / L) = i
    · subst hij
      rw [if_pos rfl, if_pos (by rw [h1.same]; exact hlt)] at hx
      cases hx
      refine ⟨fun he => absurd he (stepS_ne (validB_range hv).2.2.1 _ _), ?_⟩
      unfold stepS
      rw [List.length_take]
      have := (validB_range hv).2.2.1
      omega
    · rw [if_neg hij] at hi hx
      exact h2 i u xs hi hx
  · intro k hk
    rcases hk with rfl | rfl | ⟨j, u, hj, hk⟩
    · exact .inl ((h3 _).2 (.inl rfl))
    · exact .inl ((h3 _).2 (.inr (.inl rfl)))
    · rw [List.getElem?_set] at hj
      by_cases hij : setN S (a / L) = j
      · subst hij
        rw [if_pos rfl, if_pos hlt] at hj
        cases hj
        rcases o k hk with o | o
        · exact .inl ((h3 _).2 (.inr (.inr ⟨_, v, h4, o⟩)))
        · exact .inr o
      · rw [if_neg hij] at hj
        exact .inl ((h3 _).2 (.inr (.inr ⟨j, u, hj, hk⟩)))

theorem probe_c {w : World} {pb : Nat} {S W L : Int} {xss : List (List Int)} {F : Nat → Prop} (h : CacheAt w pb S W L xss F) (hv : validB S W L = true) (a : Int) (h0 : 0 ≤ a) (ha : a ≤ 9223372036854775807) :
    Calls Try.prog 26 #[.pointer (some ⟨pb, 0, none⟩), .int .i64 a] w fun e w' => e = .returned (.bool (hitC S L xss a)) ∧ Below w.heap.size w w' := by
  obtain ⟨sb, vs, v, h1, h2, h3, h4, h5⟩ := h.pick hv (a / L)
  refine (probe_at h1 h2 hv a h0 ha v _ h4 h5).mono ?_
  rintro e w' ⟨rfl, hb⟩
  refine ⟨ret_bool ?_, hb⟩
  unfold hitC ageOf
  by_cases hc : (nthSet xss (setN S (a / L))).contains (a / L) = true
  · rw [if_pos hc, hc]; simp
  · rw [if_neg hc, Bool.eq_false_iff.2 hc]; rfl

theorem age_c {w : World} {pb : Nat} {S W L : Int} {xss : List (List Int)} {F : Nat → Prop} (h : CacheAt w pb S W L xss F) (hv : validB S W L = true) (l : Int) (h0 : 0 ≤ l) (ha : l ≤ 9223372036854775807) :
    Calls Try.prog 25 #[.pointer (some ⟨pb, 0, none⟩), .int .i64 l] w fun e w' => e = .returned (.int .i64 (ageOf (nthSet xss (setN S l)) l)) ∧ Below w.heap.size w w' := by
  obtain ⟨sb, vs, v, h1, h2, h3, h4, h5⟩ := h.pick hv l
  exact age_at h1 h2 hv l h0 ha v _ h4 h5

def nilRow (n : Nat) : Array Value := (List.replicate n (.slice none 0 0)).toArray
theorem Try.info32 : (Try.prog.info? 32).map (fun i => (i.zero, i.size, i.bytes)) = some (some (.slice none 0 0), 1, 24) := by kernel_rfl
theorem make_sets (n : Nat) (hn : (n : Int) ≤ 64) (w : World) :
    (Instr.makeSlice 39 (.int .i64 (n : Int)) (.int .i64 (n : Int))).run Try.prog w = .ok (.slice (some ⟨w.heap.size, 0, none⟩) n n) (w.alloc (.cells (nilRow n) 32)) := by
  obtain ⟨i0, hi, hz, hs, hb⟩ := info_parts Try.info32
  have := run_make (P := Try.prog) w 39 32 i0 _ Try.underlying39 hi hz .i64 .i64 n n (by omega) (by omega) (by rw [hb]; omega) (by omega)
  rw [this, hs]
  have e : madeCells (Value.slice none 0 0).cells ((n : Int).toNat * 1) = nilRow n := by
    unfold nilRow madeCells
    simp only [Int.toNat_natCast, Nat.mul_one, Value.cells]
    apply Array.ext
    · simp
    · intro j h1 h2
      simp [Nat.mod_one]
  rw [e]
  rfl

/-- New blocks make an empty cache. -/
theorem CacheAt.fresh {w : World} {pb sb : Nat} {S W L : Int} {n : Nat} (hn : (n : Int) = S) (hp : w.heap[pb]? = some (.cells #[.int .i64 S, .int .i64 W, .int .i64 L, .slice (some ⟨sb, 0, none⟩) n n] 52 (0, 0)))
    (hs : w.heap[sb]? = some (.cells (nilRow n) 32 (0, 0))) (hne : pb ≠ sb) (hW : 0 ≤ W) : CacheAt w pb S W L (List.replicate S.toNat []) (fun k => k = pb ∨ k = sb) := by
  have hl : S.toNat = n := by omega
  rw [hl]
  have hval : ∀ (i : Nat) (v : Value), (List.replicate n (Value.slice none 0 0))[i]? = some v → v = .slice none 0 0 := by
    intro i v h
    have := List.mem_of_getElem? h
    exact List.eq_of_mem_replicate this
  have hnil : ∀ (i : Nat) (xs : List Int), (List.replicate n ([] : List Int))[i]? = some xs → xs = [] := by
    intro i v h
    exact List.eq_of_mem_replicate (List.mem_of_getElem? h)
  refine ⟨sb, List.replicate n (.slice none 0 0), ⟨by rw [List.length_replicate]; exact hp, hs, by rw [List.length_replicate]; exact hn, by simp, hne, ?_, ?_, ?_⟩, ?_, ?_⟩
  · intro i v xs h1 h2; exact .inl ⟨hval i v h1, hnil i xs h2⟩
  · intro i v k h1 h2; rw [hval i v h1] at h2; simp [own, Value.ownBlock] at h2
  · intro i j v u k h1 h2 h3; rw [hval i v h1] at h3; simp [own, Value.ownBlock] at h3
  · intro i v xs h1 h2; rw [hnil i xs h2]; exact ⟨fun _ => hval i v h1, by simpa using hW⟩
  · intro k
    constructor
    · rintro (rfl | rfl)
      · exact .inl rfl
      · exact .inr (.inl rfl)
    · rintro (rfl | rfl | ⟨i, v, h1, h2⟩)
      · exact .inl rfl
      · exact .inr rfl
      · rw [hval i v h1] at h2; simp [own, Value.ownBlock] at h2

/-- New accepts a valid geometry. -/
theorem new_yes (S W L : Int) (w : World) (hv : validB S W L = true) :
    Calls Try.prog 12 #[.agg #[.int .i64 S, .int .i64 W, .int .i64 L]] w fun e w' => ∃ pb F, e = .returned (.tuple #[.pointer (some ⟨pb, 0, none⟩), .int .i64 0]) ∧ CacheAt w' pb S W L (List.replicate S.toNat []) F ∧
      Below w.heap.size w w' ∧ (∀ k, F k → w.heap.size ≤ k) := by
  obtain ⟨s1, s2, w1, w2, l1, l2⟩ := validB_range hv
  have HV := Lib.hid (fun w => (hv ▸ valid_any S W L w : Calls Try.prog 14 #[.agg #[.int .i64 S, .int .i64 W, .int .i64 L]] w fun e w' => e = .returned (.bool true) ∧ Below w.heap.size w w'))
  obtain ⟨n, rfl⟩ : ∃ n : Nat, S = (n : Int) := ⟨S.toNat, by omega⟩
  have hmk := make_sets n s2
  have HB := Lib.hid ((Below.refl w.heap.size w).alloc (Nat.le_refl _) (.cells #[.int .i64 n, .int .i64 W, .int .i64 L] 23))
  clear hv
  go_enter Try.func12, Try.ntmps12
  go_wp2_with (first | (go_at_call 14; refine (HV.out _).mono ?_; rintro e w1 ⟨rfl, hb1⟩; obtain ⟨hc1, hf1⟩ := bcell hb1))
  have hsz := hb1.size
  have hc0 : w1.cell? ⟨w.heap.size, 0, none⟩ = some (.int .i64 n) := by rw [hc1 _ _ (by simp)]; simp
  have hc2 : w1.cell? ⟨w.heap.size, 1, none⟩ = some (.int .i64 W) := by rw [hc1 _ _ (by simp)]; simp
  have hc3 : w1.cell? ⟨w.heap.size, 2, none⟩ = some (.int .i64 L) := by rw [hc1 _ _ (by simp)]; simp
  have hne := World.new_ne w1 _ hc0
  have H1 := Lib.hid hc1
  have H2 := Lib.hid hf1
  clear hc1 hf1
  go_region_held3 (fun w' => w'.cell? ⟨w.heap.size, 0, none⟩ = some (.int .i64 n) ∧ w'.cell? ⟨w.heap.size, 1, none⟩ = some (.int .i64 W) ∧ w'.cell? ⟨w.heap.size, 2, none⟩ = some (.int .i64 L)) (first | exact ⟨hc0, hc2, hc3⟩ | go_keep) (fail)
  all_goals go_wp2
  all_goals go_ret2
  all_goals
    refine ⟨w1.heap.size + 1, rfl, _, CacheAt.fresh (sb := w1.heap.size) rfl (by have := heap_alloc_new (w1.alloc (.cells (nilRow n) 32)) (.cells #[.int .i64 n, .int .i64 W, .int .i64 L, .slice (some ⟨w1.heap.size, 0, none⟩) n n] 52); rw [World.size_alloc] at this; exact this)
      (by exact (Below.heap_alloc _ _ _ (by simp)).trans (heap_alloc_new w1 _)) (by omega) (by omega), ?_, ?_⟩
    · have hb0 := HB.out.trans (hb1.mono (by simp))
      exact ((hb0.alloc (by simp at hsz; omega) _).alloc (by simp at hsz ⊢; omega) _).drew
    · simp at hsz
      rintro k (rfl | rfl) <;> omega

/-- Flush: the same cache, empty, with a new table. -/
theorem flush_c {w : World} {pb : Nat} {S W L : Int} {xss : List (List Int)} {F : Nat → Prop} (h : CacheAt w pb S W L xss F) (hv : validB S W L = true) :
    Calls Try.prog 22 #[.pointer (some ⟨pb, 0, none⟩)] w fun e w' => e = .returned (.tuple #[]) ∧ ∃ F', CacheAt w' pb S W L (List.replicate S.toNat []) F' ∧ Chg F w w' ∧ (∀ k, F' k → F k ∨ w.heap.size ≤ k) := by
  obtain ⟨s1, s2, w1, w2, l1, l2⟩ := validB_range hv
  obtain ⟨n, rfl⟩ : ∃ n : Nat, S = (n : Int) := ⟨S.toNat, by omega⟩
  have hmk := make_sets n s2
  obtain ⟨sb, vs, h1, h2, h3⟩ := h
  have p0 := h1.p0
  have p3 := h1.p3
  have f3 := h1.pf 3
  have hpb : pb < w.heap.size := h1.foot_lt pb (.inl rfl)
  have HP := Lib.hid (h3 pb)
  have HH := Lib.hid h1
  have hne := World.new_ne w _ p0
  clear hv h1 h2 h3
  go_enter Try.func22, Try.ntmps22
  go_wp2_with fail
  go_end0
  refine ⟨rfl, _, CacheAt.fresh (sb := w.heap.size) rfl ?_ ?_ (by omega) (by omega), ?_, ?_⟩
  · rw [Below.heap_alloc _ _ _ (by simpa using hpb), heap_setCell_self _ _ _ _ _ _ _ HH.out.head]
    rfl
  · have := heap_alloc_new (w.setCell ⟨pb, 3, none⟩ (.slice (some ⟨w.heap.size, 0, none⟩) n n)) (.cells (nilRow n) 32)
    rw [World.size_setCell] at this
    exact this
  · exact Chg.alloc (Chg.setCell (Chg.refl _ w) _ _ (.inl (HP.out.2 (.inl rfl)))) _
  · rintro k (rfl | rfl)
    · exact .inl (HP.out.2 (.inl rfl))
    · exact .inr (Nat.le_refl _)

theorem flush_nil (w : World) : Calls Try.prog 22 #[.pointer none] w fun e w' => e = .returned (.tuple #[]) ∧ w = w' := by
  go_enter Try.func22, Try.ntmps22
  go_wp2_with fail
  go_end0
  exact ⟨rfl, rfl⟩

theorem new_no (S W L : Int) (w : World) (hv : validB S W L = false) :
    Calls Try.prog 12 #[.agg #[.int .i64 S, .int .i64 W, .int .i64 L]] w fun e w' => e = .returned (.tuple #[.pointer none, .int .i64 1]) ∧ Below w.heap.size w w' := by
  have HV := Lib.hid (fun w => (hv ▸ valid_any S W L w : Calls Try.prog 14 #[.agg #[.int .i64 S, .int .i64 W, .int .i64 L]] w fun e w' => e = .returned (.bool false) ∧ Below w.heap.size w w'))
  have HB := Lib.hid ((Below.refl w.heap.size w).alloc (Nat.le_refl _) (.cells #[.int .i64 S, .int .i64 W, .int .i64 L] 23))
  go_enter Try.func12, Try.ntmps12
  go_wp2_with (first | (go_at_call 14; refine (HV.out _).mono ?_; rintro e w1 ⟨rfl, hb1⟩; obtain ⟨hc1, hf1⟩ := bcell hb1))
  go_ret2
  exact ⟨rfl, HB.out.trans (hb1.mono (by simp))⟩

end Go.Proofs.Ytgpakmcboppfhaa
