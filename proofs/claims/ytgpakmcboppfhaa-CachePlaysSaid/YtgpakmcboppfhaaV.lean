/- The reference's Contents and Age. -/
import Derived.Test.YtgpakmcboppfhaaK
import Derived.Test.YtgpakmcboppfhaaR
import Derived.Test.YtgpakmcboppfhaaU
import Derived.Test.YtgpakmcboppfhaaLawAges
namespace Go.Proofs.Ytgpakmcboppfhaa
set_option linter.unusedVariables false
set_option linter.unusedSimpArgs false
open Go.RowKit

theorem SetV.owns {w : World} {v : Value} {xs : List Int} (h : SetV w v xs) {B : Nat} (ho : ∀ k, own v k → B ≤ k) : w.ownsRow B 3 1 v xs.length (xs.map (Value.int .i64)) := by
  refine ⟨by simp, ?_⟩
  rcases h with ⟨rfl, rfl⟩ | ⟨g, cap, rfl, cur, h1, h2, h3, h4, h5⟩
  · exact .inl ⟨rfl, rfl⟩
  · refine .inr ⟨g, cap, cur, rfl, ho g rfl, h1, h3, h4, by omega, ?_⟩
    apply List.ext_getElem?
    intro j
    rw [List.getElem?_take, List.getElem?_map]
    by_cases hj : j < xs.length
    · rw [if_pos (by omega), Array.getElem?_toList, h5 j hj, List.getElem?_eq_getElem hj, List.getD_eq_getElem?_getD, List.getElem?_eq_getElem hj]; rfl
    · rw [if_neg (by omega), List.getElem?_eq_none (by omega)]; rfl

theorem SetV.ofOwns {w : World} {B : Nat} {v : Value} {n : Nat} {ys : List Value} {xs : List Int} (h : w.ownsRow B 3 1 v n ys) (hn : n = xs.length) (hy : ys = xs.map (Value.int .i64)) : SetV w v xs ∧ ∀ k, own v k → B ≤ k := by
  subst hn hy
  obtain ⟨_, h2⟩ := h
  rcases h2 with ⟨rfl, h⟩ | ⟨g, cap, cur, rfl, hB, h1, h3, h4, h5, h6⟩
  · exact ⟨.inl ⟨rfl, List.length_eq_zero_iff.1 h⟩, fun k hk => by simp [own, Value.ownBlock] at hk⟩
  · refine ⟨.inr ⟨g, cap, rfl, cur, h1, by omega, h3, h4, fun j hj => ?_⟩, fun k hk => by simp [own, Value.ownBlock] at hk; omega⟩
    have : (cur.toList.take (xs.length * 1))[j]? = (xs.map (Value.int .i64))[j]? := by rw [h6]
    rw [List.getElem?_take, if_pos (by omega), List.getElem?_map, List.getElem?_eq_getElem hj] at this
    rw [← Array.getElem?_toList, this, List.getD_eq_getElem?_getD, List.getElem?_eq_getElem hj]; rfl

theorem Chg.grown {w w' : World} {v : Value} (h : w.grownBy w' v.ownBlock) : Chg (own v) w w' :=
  ⟨h.os, h.tape, h.output, h.size, fun k hk hn => h.block k hk (fun e => hn e.symm)⟩
theorem Try.info3 : (Try.prog.info? 3).map (fun i => (i.zero, i.size, i.bytes)) = some (some (.int .i64 0), 1, 8) := by kernel_rfl

theorem cell_news (w : World) (x : Int) : ∀ (j : Nat) (u : Value), [Value.int .i64 x][j]? = some u → (w.alloc (.cells #[.int .i64 x] 3)).cell? ((⟨w.heap.size, 0, none⟩ : Addr).add j) = some u := by
  intro j u hu
  cases j with
  | zero => simp at hu; subst hu; simp [Addr.add]
  | succ j => simp at hu
theorem one_news (x : Int) : ∀ u ∈ [Value.int .i64 x], u.oneCell' = true := by intro u hu; simp at hu; subst hu; rfl

set_option maxHeartbeats 4000000 in
theorem contents_any {N : Nat} (S W L : Int) (a : Option Addr) (c : Nat) (H : List Int) (s : Nat) (w : World) (hv : validB S W L = true) (ha : ArgI N w a H) (hH : ∀ k ∈ H, 0 ≤ k ∧ k ≤ 9223372036854775807) (hl : H.length ≤ 1000) (hs : (s : Int) < S) :
    Calls Try.prog 30 #[.agg #[.int .i64 S, .int .i64 W, .int .i64 L], .slice a H.length c, .int .i64 (s : Int)] w fun e w' => ∃ v, e = .returned v ∧ SetV w' v (conts S W H s) ∧ Below w.heap.size w w' ∧ (∀ k, own v k → w.heap.size ≤ k) := by
  have HB := Lib.hid ((Below.refl w.heap.size w).alloc (Nat.le_refl _) (.cells #[.int .i64 S, .int .i64 W, .int .i64 L] 23))
  have HV := Lib.hid hv
  have HA := Lib.hid ha
  have HH := Lib.hid hH
  obtain ⟨s1, s2, w1, w2, l1, l2⟩ := validB_range hv
  obtain ⟨i0, hin0, hz0, hz1, hz2⟩ := info_parts Try.info3
  clear hv ha hH
  go_enter Try.func30, Try.ntmps30
  go_wp2_with fail
  have k0 : (w.alloc (.cells #[.int .i64 S, .int .i64 W, .int .i64 L] 23)).cell? ⟨w.heap.size, 0, none⟩ = some (.int .i64 S) ∧ (w.alloc (.cells #[.int .i64 S, .int .i64 W, .int .i64 L] 23)).cell? ⟨w.heap.size, 1, none⟩ = some (.int .i64 W) ∧
    (w.alloc (.cells #[.int .i64 S, .int .i64 W, .int .i64 L] 23)).cell? ⟨w.heap.size, 2, none⟩ = some (.int .i64 L) ∧ Below w.heap.size w (w.alloc (.cells #[.int .i64 S, .int .i64 W, .int .i64 L] 23)) := ⟨by simp, by simp, by simp, HB.out⟩
  have K0 := Lib.hid k0
  clear k0
  generalize w.alloc (.cells #[.int .i64 S, .int .i64 W, .int .i64 L] 23) = wb at *
  go_loopw [7, 8] (fun s7 s8 wr => ∃ (i : Nat) (j : Int), i ≤ H.length ∧ j = (i : Int) - 1 ∧ s8 = .int .i64 j ∧ SetV wr s7 (scan S s H i) ∧ (scan S s H i).length ≤ W.toNat ∧ (∀ k, own s7 k → w.heap.size < k) ∧
      (wr.cell? ⟨w.heap.size, 0, none⟩ = some (.int .i64 S) ∧ wr.cell? ⟨w.heap.size, 1, none⟩ = some (.int .i64 W) ∧ wr.cell? ⟨w.heap.size, 2, none⟩ = some (.int .i64 L) ∧ Below w.heap.size w wr)) (fun _ s8 _ => (intOf s8 + 1).toNat)
  case atStart => exact ⟨H.length, _, Nat.le_refl _, rfl, rfl, by rw [scan_start]; exact .inl ⟨rfl, rfl⟩, by rw [scan_start]; exact Nat.zero_le _, fun k hk => by simp [own, Value.ownBlock] at hk, K0.out⟩
  case round =>
    obtain ⟨i, j, hi, hj, rfl, hset, hlen, hown, hk⟩ := hrel
    obtain ⟨va, vc, rfl, harg⟩ := hset.arg
    have HSET := Lib.hid hset
    have HARG := Lib.hid harg
    have HOWN := Lib.hid hown
    have HK := Lib.hid hk
    clear hset harg hown hk
    by_cases hgo : 0 < i ∧ (scan S s H i).length < W.toNat
    · obtain ⟨hpos, hlw⟩ := hgo
      obtain ⟨k, rfl⟩ : ∃ k, i = k + 1 := ⟨i - 1, by omega⟩
      obtain rfl : j = (k : Int) := by omega
      clear hj hpos
      have hkl : k < H.length := by omega
      obtain ⟨b, off, hb1, hx⟩ := (HA.out.kept HK.out.2.2.2).at hkl
      have HSC := Lib.hid (scan_step (S := S) (s := s) hkl)
      obtain ⟨hx0, hx1⟩ := HH.out (H.getD k 0) (by rw [List.getD_eq_getElem?_getD, List.getElem?_eq_getElem hkl]; exact List.getElem_mem hkl)
      generalize H.getD k 0 = x at *
      generalize scan S s H (k + 1) = out at *
      have HS1 := Lib.hid (fun w => (rset_any S W L x w hx1))
      obtain ⟨n1, hn1⟩ : ∃ n, setN S x = n := ⟨_, rfl⟩
      have hset1 : setI S W L x = (n1 : Int) := by rw [setI_val HV.out hx0, hn1]
      rw [hset1] at HS1
      rw [hn1] at HSC
      have c0 := HK.out.1
      have c1 := HK.out.2.1
      have c2 := HK.out.2.2.1
      have hd0 : decide ((out.length : Int) < W) = true := decide_eq_true (by omega)
      clear hn1 hset1
      subst hb1
      by_cases hns : n1 = s
      · have hb : ((n1 : Int) != (s : Int)) = false := by simp [hns]
        have HNS := Lib.hid hns
        clear hns
        go_wp2_with (first | (go_at_call 18; go_must (refine (HS1.out _).mono ?_); rintro e w5 ⟨rfl, hb5⟩))
        have HSET5 := Lib.hid (HSET.out.below hb5)
        have HARG5 := Lib.hid (HARG.out.kept hb5)
        have HK5 := Lib.hid (keep3 hb5 HK.out)
        have hsz5 := hb5.size
        have hwsz := World.block_lt_of_cell? wr _ c0
        simp only at hwsz
        clear hb5 c0 c1 c2 HS1
        go_loop [10, 11] (fun s10 s11 => ∃ m : Nat, m ≤ out.length ∧ s11 = .int .i64 m ∧ s10 = .bool ((out.take m).contains x)) (fun _ s11 => out.length - (intOf s11).toNat)
        case atStart => exact ⟨0, Nat.zero_le _, rfl, rfl⟩
        case round =>
          obtain ⟨m, hm, rfl, rfl⟩ := hrel
          by_cases hml : m < out.length
          · obtain ⟨b', off', hb', hx'⟩ := HARG5.out.at hml
            have HT := Lib.hid (show (out.take (m + 1)).contains x = ((out.take m).contains x || (out.getD m 0 == x)) by
              rw [List.take_add_one, List.getElem?_eq_getElem hml, List.getD_eq_getElem?_getD, List.getElem?_eq_getElem hml]
              exact contains_snoc _ _ _)
            generalize out.getD m 0 = y at *
            generalize (out.take m).contains x = fnd at *
            subst hb'
            by_cases hyx : y = x
            · have hb2 : (y == x) = true := beq_iff_eq.2 hyx
              have HT2 := Lib.hid (HT.out.trans (by rw [hb2, Bool.or_true]))
              clear hyx
              go_wp2_with fail
              go_round
              case rel => exact ⟨m + 1, by omega, by go_num, by rw [HT2.out]⟩
              case measure => simp only [intOf]; omega
            · have hb2 : (y == x) = false := beq_eq_false_iff_ne.2 hyx
              have HT2 := Lib.hid (HT.out.trans (by rw [hb2, Bool.or_false]))
              clear hyx
              go_wp2_with fail
              go_round
              case rel => exact ⟨m + 1, by omega, by go_num, by rw [HT2.out]⟩
              case measure => simp only [intOf]; omega
          · have hmo : m = out.length := by omega
            have HMO := Lib.hid (show (out.take m).contains x = out.contains x by rw [hmo, List.take_length])
            clear hmo
            generalize (out.take m).contains x = fnd at *
            cases fnd
            · have hnot : x ∉ out := fun h => by rw [List.contains_iff_mem.2 h] at HMO; exact absurd HMO.out (by simp)
              have HE := Lib.hid (HSC.out.trans (if_pos ⟨HNS.out, hnot⟩))
              have HOW := Lib.hid (HSET5.out.owns (B := w.heap.size + 1) (fun k hk => HOWN.out k hk))
              have hlen9 : out.length ≤ 8 := by omega
              clear hnot
              go_wp2_with (first | (at_builtin; go_must (refine wpList_append_own _ rfl _ _ 32 rfl (w.heap.size + 1) 3 i0 (.int .i64 0) 1 8 Try.underlying32 hin0 hz0 hz1 hz2 rfl (by decide) _ _ _ rfl (HOW.out.alloc _) ⟨w5.heap.size, 0, none⟩ 1 1 [.int .i64 x] rfl rfl (cell_news w5 x) (one_news x) ?c3 ?c4 ?c5 ?_)))
              case c3 => unfold maxLen; omega
              case c4 => omega
              case c5 => first | omega | (rw [World.size_alloc]; omega)
              intro v6 w6 hown6 hgrow6 _
              obtain ⟨hset6, ho6⟩ := SetV.ofOwns (xs := out ++ [x]) hown6 (by simp) (by simp)
              have hchg := (Chg.refl (own (.slice va out.length vc)) w5).alloc (.cells #[.int .i64 x] 3) |>.trans (Chg.grown hgrow6) (fun _ h => .inl h)
              have K6 := Lib.hid (keepC hchg HOWN.out HK5.out)
              have HS6 := Lib.hid hset6
              have HO6 := Lib.hid ho6
              clear hown6 hgrow6 hset6 ho6 hchg
              go_wp2_with fail
              go_roundw
              case rel => exact ⟨k, _, by omega, rfl, by go_num, by rw [HE.out]; exact HS6.out, by rw [HE.out]; simp; omega, fun k hk => HO6.out k hk, K6.out⟩
              case measure => simp only [intOf]; omega
            · have hyes : x ∈ out := List.contains_iff_mem.1 HMO.out.symm
              have HE := Lib.hid (HSC.out.trans (if_neg (fun h => h.2 hyes)))
              clear hyes
              go_wp2_with fail
              go_roundw
              case rel => exact ⟨k, _, by omega, rfl, by go_num, by rw [HE.out]; exact HSET5.out, by rw [HE.out]; exact hlen, HOWN.out, HK5.out⟩
              case measure => simp only [intOf]; omega
      · have hb : ((n1 : Int) != (s : Int)) = true := by rw [bne_iff_ne]; omega
        have HE := Lib.hid (HSC.out.trans (if_neg (fun h => hns h.1)))
        clear hns
        go_wp2_with (first | (go_at_call 18; go_must (refine (HS1.out _).mono ?_); rintro e w5 ⟨rfl, hb5⟩))
        go_roundw
        case rel => exact ⟨k, _, by omega, rfl, by go_num, by rw [HE.out]; exact HSET.out.below hb5, by rw [HE.out]; exact hlen, HOWN.out, keep3 hb5 HK.out⟩
        case measure => simp only [intOf]; omega
    · have HE := Lib.hid (scan_end hlen (by
        rcases Nat.eq_zero_or_pos i with h | h
        · exact .inl h
        · right; rcases Nat.lt_or_ge (scan S s H i).length W.toNat with h1 | h1
          · exact absurd ⟨h, h1⟩ hgo
          · exact h1))
      have c1 := HK.out.2.1
      rcases Nat.eq_zero_or_pos i with h | h
      · have hj0 : j < 0 := by omega
        clear hgo
        generalize scan S s H i = out at *
        go_wp2_with fail
        go_ret
        exact ⟨_, rfl, by rw [← HE.out]; exact HSET.out, HK.out.2.2.2, fun k hk => by have := HOWN.out k hk; omega⟩
      · have hj0 : 0 ≤ j := by omega
        have hnl : ¬ (((scan S s H i).length : Int) < W) := by
          intro hh; exact hgo ⟨h, by omega⟩
        clear hgo
        generalize scan S s H i = out at *
        go_wp2_with fail
        go_ret
        exact ⟨_, rfl, by rw [← HE.out]; exact HSET.out, HK.out.2.2.2, fun k hk => by have := HOWN.out k hk; omega⟩

theorem ageOf_hit {xs : List Int} {x : Int} {m : Nat} (hx : xs[m]? = some x) (hn : (xs.take m).contains x = false) : ageOf xs x = (m : Int) := by
  obtain ⟨hm, he⟩ := List.getElem?_eq_some_iff.1 hx
  unfold ageOf
  rw [if_pos (List.contains_iff_mem.2 (he ▸ List.getElem_mem hm))]
  congr 1
  have e : xs = xs.take m ++ x :: xs.drop (m + 1) := by
    rw [← he, ← List.drop_eq_getElem_cons hm, List.take_append_drop]
  have hnm : x ∉ xs.take m := fun h => by rw [List.contains_iff_mem.2 h] at hn; cases hn
  rw [e, List.idxOf_append, if_neg hnm]
  simp
  omega
theorem ageOf_miss {xs : List Int} {x : Int} (hn : xs.contains x = false) : ageOf xs x = -1 := by
  unfold ageOf
  rw [if_neg (by rw [hn]; simp)]

set_option maxHeartbeats 4000000 in
theorem rage_any {N : Nat} (S W L : Int) (a : Option Addr) (c : Nat) (H : List Int) (x : Int) (w : World) (hv : validB S W L = true) (ha : ArgI N w a H) (hH : ∀ k ∈ H, 0 ≤ k ∧ k ≤ 9223372036854775807) (hl : H.length ≤ 1000) (hx0 : 0 ≤ x) (hx1 : x ≤ 9223372036854775807) :
    Calls Try.prog 28 #[.agg #[.int .i64 S, .int .i64 W, .int .i64 L], .slice a H.length c, .int .i64 x] w fun e w' => e = .returned (.int .i64 (ageOf (conts S W H (setN S x)) x)) ∧ Below w.heap.size w w' := by
  have HB := Lib.hid ((Below.refl w.heap.size w).alloc (Nat.le_refl _) (.cells #[.int .i64 S, .int .i64 W, .int .i64 L] 23))
  obtain ⟨s1, s2, w1, w2, l1, l2⟩ := validB_range hv
  obtain ⟨s, hs⟩ : ∃ s, setN S x = s := ⟨_, rfl⟩
  have hslt : (s : Int) < S := by rw [← hs]; exact setN_lt x hv
  have hseti : setI S W L x = (s : Int) := by rw [setI_val hv hx0, hs]
  have HS1 := Lib.hid (fun w => (hseti ▸ rset_any S W L x w hx1 : Calls Try.prog 18 #[.agg #[.int .i64 S, .int .i64 W, .int .i64 L], .int .i64 x] w fun e w' => e = .returned (.int .i64 (s : Int)) ∧ Below w.heap.size w w'))
  have HC1 := Lib.hid (fun (w' : World) (h : Below w.heap.size w w') => contents_any S W L a c H s w' hv (ha.kept h) hH hl hslt)
  rw [hs]
  have hcl := conts_len S W H s
  generalize conts S W H s = xs at *
  clear hs hseti hslt ha hH hv
  go_enter Try.func28, Try.ntmps28
  go_wp2_with fail
  have k0 : (w.alloc (.cells #[.int .i64 S, .int .i64 W, .int .i64 L] 23)).drew.cell? ⟨w.heap.size, 0, none⟩ = some (.int .i64 S) ∧ (w.alloc (.cells #[.int .i64 S, .int .i64 W, .int .i64 L] 23)).drew.cell? ⟨w.heap.size, 1, none⟩ = some (.int .i64 W) ∧
    (w.alloc (.cells #[.int .i64 S, .int .i64 W, .int .i64 L] 23)).drew.cell? ⟨w.heap.size, 2, none⟩ = some (.int .i64 L) ∧ Below w.heap.size w (w.alloc (.cells #[.int .i64 S, .int .i64 W, .int .i64 L] 23)).drew := ⟨by simp, by simp, by simp, HB.out.drew⟩
  have K0 := Lib.hid k0
  clear k0
  go_cut [7] (fun s7 wx => SetV wx s7 xs ∧ Below w.heap.size w wx)
  case first =>
    go_region_held3 (fun w' => w'.cell? ⟨w.heap.size, 0, none⟩ = some (.int .i64 S) ∧ w'.cell? ⟨w.heap.size, 1, none⟩ = some (.int .i64 W) ∧ w'.cell? ⟨w.heap.size, 2, none⟩ = some (.int .i64 L) ∧ Below w.heap.size w w')
      (first | exact K0.out | assumption | exact keep3 hb6 (by assumption) | exact keep3 hb5 (by assumption))
      (first | (go_at_call 18; refine (HS1.out _).mono ?_; rintro e w5 ⟨rfl, hb5⟩) | (go_at_call 30; refine (HC1.out _ (by obtain ⟨_, _, _, hq⟩ := ‹_ ∧ _ ∧ _ ∧ Below w.heap.size w _›; exact hq)).mono ?_; rintro e w6 ⟨v6, rfl, hv6, hb6, ho6⟩))
    all_goals
      obtain ⟨_, _, _, hq⟩ := ‹_ ∧ _ ∧ _ ∧ Below w.heap.size w w6›
      go_wp2_with fail
      go_meet
      exact ⟨hv6, hq⟩
  case rest =>
    obtain ⟨hset, hb⟩ := hcut
    obtain ⟨va, vc, rfl, harg⟩ := hset.arg
    have HARG := Lib.hid harg
    have HBB := Lib.hid hb
    clear hset harg hb
    go_wp2_with fail
    go_loop [8] (fun s8 => ∃ m : Nat, m ≤ xs.length ∧ s8 = .int .i64 m ∧ Hid ((xs.take m).contains x = false)) (fun s8 => xs.length - (intOf s8).toNat)
    case atStart => exact ⟨0, Nat.zero_le _, rfl, Lib.hid rfl⟩
    case round =>
      obtain ⟨m, hm, rfl, hp⟩ := hrel
      by_cases hml : m < xs.length
      · obtain ⟨b', off', hb', hx'⟩ := HARG.out.at hml
        have HX := Lib.hid (show xs[m]? = some (xs.getD m 0) by rw [List.getD_eq_getElem?_getD, List.getElem?_eq_getElem hml]; rfl)
        generalize xs.getD m 0 = y at *
        subst hb'
        by_cases hyx : y = x
        · have hb2 : (y == x) = true := beq_iff_eq.2 hyx
          have HF := Lib.hid (ageOf_hit (hyx ▸ HX.out) hp.out)
          clear hyx
          go_wp2_with fail
          go_ret
          exact ⟨ret_int HF.out.symm, HBB.out⟩
        · have hb2 : (y == x) = false := beq_eq_false_iff_ne.2 hyx
          have HP2 := Lib.hid (show (xs.take (m + 1)).contains x = false by
            rw [List.take_add_one, HX.out]
            exact (contains_snoc _ _ _).trans (by rw [hp.out, hb2]; rfl))
          clear hyx
          go_wp2_with fail
          go_round
          case rel => exact ⟨m + 1, by omega, by go_num, HP2⟩
          case measure => simp only [intOf]; omega
      · have hmn : m = xs.length := by omega
        have HF := Lib.hid (ageOf_miss (xs := xs) (x := x) (by have := hp.out; rwa [hmn, List.take_length] at this))
        clear hmn
        go_wp2_with fail
        go_ret
        exact ⟨ret_int HF.out.symm, HBB.out⟩

end Go.Proofs.Ytgpakmcboppfhaa
