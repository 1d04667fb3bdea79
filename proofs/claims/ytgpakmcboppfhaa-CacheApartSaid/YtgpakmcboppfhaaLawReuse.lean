/- CacheReuse returns true: stack distance. -/
import Derived.Test.YtgpakmcboppfhaaK
import Derived.Test.YtgpakmcboppfhaaT
namespace Go.Proofs.Ytgpakmcboppfhaa
set_option linter.unusedVariables false
set_option linter.unusedSimpArgs false
open Go.RowKit

def ik (n : Int) : Value := .int .i64 n
theorem mk44 : MKey Try.prog 3 ik := mkey_int Try.underlying3

theorem below_drewN' (w : World) (n : Nat) : Below w.heap.size w (w.drewN n) := ⟨rfl, rfl, rfl, Nat.le_refl _, fun _ _ => rfl⟩

theorem keep4 {Q : World → Prop} {w W w1 : World} {a0 a1 a2 : Addr} {v0 v1 v2 : Value} (hQ : ∀ x y, Below x.heap.size x y → Q x → Q y) (hb : Below W.heap.size W w1)
    (h : W.cell? a0 = some v0 ∧ W.cell? a1 = some v1 ∧ W.cell? a2 = some v2 ∧ Q W ∧ Below w.heap.size w W) :
    w1.cell? a0 = some v0 ∧ w1.cell? a1 = some v1 ∧ w1.cell? a2 = some v2 ∧ Q w1 ∧ Below w.heap.size w w1 :=
  ⟨cell_kept hb h.1, cell_kept hb h.2.1, cell_kept hb h.2.2.1, hQ _ _ hb h.2.2.2.1, h.2.2.2.2.trans (hb.mono h.2.2.2.2.size)⟩

set_option maxRecDepth 100000 in
set_option maxHeartbeats 4000000 in
theorem reuse_row (S W L : Int) (a1 : Option Addr) (c1 : Nat) (l1 : List Int) (addr : Int) (w : World)
    (r1 : ArgI w.heap.size w a1 l1) (y1 : l1.length * 8 ≤ 140737488351232) (i1 : InI l1) (il : -9223372036854775808 ≤ addr ∧ addr ≤ 9223372036854775807) :
    Calls Try.prog 7 #[.agg #[.int .i64 S, .int .i64 W, .int .i64 L], .slice a1 l1.length c1, .int .i64 addr] w fun e w' => e = .returned (.bool true) ∧ Below w.heap.size w w' := by
  have HB := Lib.hid ((Below.refl w.heap.size w).alloc (Nat.le_refl _) (.cells #[.int .i64 S, .int .i64 W, .int .i64 L] 23))
  have start : ∀ W1, Below (w.alloc (.cells #[.int .i64 S, .int .i64 W, .int .i64 L] 23)).heap.size (w.alloc (.cells #[.int .i64 S, .int .i64 W, .int .i64 L] 23)) W1 →
      W1.cell? ⟨w.heap.size, 0, none⟩ = some (.int .i64 S) ∧ W1.cell? ⟨w.heap.size, 1, none⟩ = some (.int .i64 W) ∧ W1.cell? ⟨w.heap.size, 2, none⟩ = some (.int .i64 L) ∧ Below w.heap.size w W1 :=
    fun W1 hb => ⟨cell_kept hb (by simp), cell_kept hb (by simp), cell_kept hb (by simp), HB.out.trans (hb.mono (by simp))⟩
  have HST := Lib.hid start
  have R1 := Lib.hid r1
  have I1 := Lib.hid i1
  have HG1 := Lib.hid (fun (w' : World) (h : Below w.heap.size w w') => great_any a1 c1 l1 w' (R1.out.kept h) (by omega))
  obtain ⟨il1, il2⟩ := il
  clear start r1 i1
  go_enter Try.func7, Try.ntmps7
  go_wp2_with (first | (go_at_call 11; go_must (refine (awake_any _).mono ?_); rintro e w1 ⟨rfl, hb1⟩; obtain ⟨k0, k1, k2, b1⟩ := HST.out _ hb1; clear hb1))
  by_cases hv : validB S W L = true
  · have HM := Lib.hid (made_yes S W L a1 c1 l1 w1 hv (R1.out.kept b1) (by omega) I1.out)
    have HV := Lib.hid hv
    clear hv
    refine HM.out.mono ?_
    rintro e w2 ⟨pb, F, rfl, hc2, hb2, hf2⟩
    have K2 := Lib.hid (keep3 hb2 ⟨k0, k1, k2, b1⟩)
    have HC2 := Lib.hid hc2
    clear k0 k1 k2 b1 hf2 hc2 hb2 HM
    go_wp2_with fail
    refine (HG1.out _ K2.out.2.2.2).mono ?_
    rintro e w2 ⟨rfl, rfl⟩
    by_cases g1 : greatB l1 = true
    · go_wp2_with fail
      go_ret
      exact ⟨rfl, K2.out.2.2.2⟩
    have g1' : greatB l1 = false := Bool.eq_false_iff.2 g1
    clear g1
    by_cases hneg : addr < 0
    · go_wp2_with fail
      go_ret
      exact ⟨rfl, K2.out.2.2.2⟩
    by_cases hbig : 100000 < addr
    · go_wp2_with fail
      go_ret
      exact ⟨rfl, K2.out.2.2.2⟩
    have HNG := Lib.hid (not_great g1')
    have hl200 : (l1.length : Int) ≤ 200 := by have := HNG.out.2; omega
    have c0 := K2.out.1
    have c1' := K2.out.2.1
    have c2 := K2.out.2.2.1
    have hmm := @run_makeMap Try.prog
    have HLA := Lib.hid (fun w => line_val S W L addr w HV.out (by omega) (by omega))
    obtain ⟨line, hline⟩ : ∃ x, addr / L = x := ⟨_, rfl⟩
    rw [hline] at HLA
    have HLINE := Lib.hid hline
    clear hline
    go_wp2_with (first | (go_at_call 15; go_must (refine (HLA.out _).mono ?_); rintro e w3 ⟨rfl, hb3⟩))
    have KK3 := Lib.hid (keep3 hb3 K2.out)
    have HC3 := Lib.hid (HC2.out.below hb3)
    have HSL := Lib.hid (show setN S (addr / L) = setN S line by rw [HLINE.out])
    have hlr : 0 ≤ line ∧ line ≤ 100000 := by rw [← HLINE.out]; exact line_range (validB_range HV.out).2.2.2.2.1 (by omega) (by omega)
    obtain ⟨hl0, hl1⟩ := hlr
    obtain ⟨mb, hmb⟩ : ∃ mb, w3.heap.size = mb := ⟨_, rfl⟩
    have hba : Below w3.heap.size w3 (w3.alloc (.map #[] 0)) := (Below.refl _ _).alloc (Nat.le_refl _) _
    have KA := Lib.hid (keep3 hba KK3.out)
    have HCA := Lib.hid (HC3.out.below hba)
    have HMA := Lib.hid (MapAt.made w3 ik)
    have HWM := Lib.hid (show w.heap.size < w3.heap.size from by have := World.block_lt_of_cell? w3 _ KK3.out.1; exact this)
    have HFM := Lib.hid (show ∀ k, F k → k < w3.heap.size from HC3.out.lt)
    rw [hmb] at HMA HWM HFM
    rw [hmb]
    clear hb3 hba c0 c1' c2 hmb
    generalize w3.alloc (.map #[] 0) = wa at *
    go_loopw [10] (fun s10 wr => ∃ (i : Nat) (j : Int) (D : List (Int × Value)), i ≤ l1.length ∧ j = (i : Int) - 1 ∧ s10 = .int .i64 j ∧ Others S L (setN S line) (l1.drop i) D ∧ (∀ b ∈ l1.drop i, 0 ≤ b → b / L ≠ line) ∧
      MapAt wr mb ik D ∧ CacheAt wr pb S W L (runC S W L (emptyC S) l1) F ∧ (wr.cell? ⟨w.heap.size, 0, none⟩ = some (.int .i64 S) ∧ wr.cell? ⟨w.heap.size, 1, none⟩ = some (.int .i64 W) ∧ wr.cell? ⟨w.heap.size, 2, none⟩ = some (.int .i64 L) ∧ Below w.heap.size w wr)) (fun s10 _ => (intOf s10 + 1).toNat)
    case atStart => exact ⟨l1.length, _, [], Nat.le_refl _, rfl, rfl, by rw [List.drop_length]; exact Others.start _ _ _, by rw [List.drop_length]; simp, HMA.out, HCA.out, KA.out⟩
    case round =>
      obtain ⟨i, j, D, hi, hj, rfl, ho, hno, hm, hc, hk⟩ := hrel
      have HO := Lib.hid ho
      have HNO := Lib.hid hno
      have HM := Lib.hid hm
      have HC := Lib.hid hc
      have HK := Lib.hid hk
      clear ho hno hm hc hk
      by_cases hpos : 0 < i
      · obtain ⟨k, rfl⟩ : ∃ k, i = k + 1 := ⟨i - 1, by omega⟩
        obtain rfl : j = (k : Int) := by omega
        clear hj hpos
        have hkl : k < l1.length := by omega
        obtain ⟨b, off, hb1, hx⟩ := (R1.out.kept HK.out.2.2.2).at hkl
        have hxr := I1.out.at hkl
        have hx1 := hxr.1
        have hx2 := hxr.2
        have HDR := Lib.hid (show l1.drop k = l1.getD k 0 :: l1.drop (k + 1) by rw [List.drop_eq_getElem_cons hkl, List.getD_eq_getElem?_getD, List.getElem?_eq_getElem hkl]; rfl)
        have HSP := Lib.hid (show l1 = l1.take k ++ l1.getD k 0 :: l1.drop (k + 1) by rw [← HDR.out, List.take_append_drop])
        generalize l1.getD k 0 = x at *
        clear hxr
        have HLN := Lib.hid (fun w => line_any S W L x w hx2)
        obtain ⟨y, hy⟩ : ∃ y, lineI S W L x = y := ⟨_, rfl⟩
        rw [hy] at HLN
        have HY := Lib.hid hy
        have hyr : -1 ≤ y ∧ y ≤ 9223372036854775807 := by
          rw [← hy]; unfold lineI
          split
          · rename_i h; obtain ⟨_, h0⟩ := h
            obtain ⟨q1, q2⟩ := line_range (B := 9223372036854775807) (validB_range HV.out).2.2.2.2.1 h0 hx2
            omega
          · omega
        obtain ⟨hy1, hy2⟩ := hyr
        clear hy
        have g0 := HK.out.1
        have g1 := HK.out.2.1
        have g2 := HK.out.2.2.1
        have hQd : (fun w' => w'.cell? ⟨b, off + k, none⟩ = some (.int .i64 x) ∧ MapAt w' mb ik D ∧ CacheAt w' pb S W L (runC S W L (emptyC S) l1) F) wr.drew := ⟨hx, HM.out.below (Below.refl _ _).drew, HC.out.below (Below.refl _ _).drew⟩
        have HQ := Lib.hid (show ∀ x' y', Below x'.heap.size x' y' → (fun w' => w'.cell? ⟨b, off + k, none⟩ = some (.int .i64 x) ∧ MapAt w' mb ik D ∧ CacheAt w' pb S W L (runC S W L (emptyC S) l1) F) x' → (fun w' => w'.cell? ⟨b, off + k, none⟩ = some (.int .i64 x) ∧ MapAt w' mb ik D ∧ CacheAt w' pb S W L (runC S W L (emptyC S) l1) F) y' from fun x' y' hb h => ⟨cell_kept hb h.1, h.2.1.below hb, h.2.2.below hb⟩)
        have bdr : Below w.heap.size w wr.drew := HK.out.2.2.2.drew
        subst hb1
        go_wp2_with fail
        go_region_held3 (fun w' => w'.cell? ⟨w.heap.size, 0, none⟩ = some (.int .i64 S) ∧ w'.cell? ⟨w.heap.size, 1, none⟩ = some (.int .i64 W) ∧ w'.cell? ⟨w.heap.size, 2, none⟩ = some (.int .i64 L) ∧ (w'.cell? ⟨b, off + k, none⟩ = some (.int .i64 x) ∧ MapAt w' mb ik D ∧ CacheAt w' pb S W L (runC S W L (emptyC S) l1) F) ∧ Below w.heap.size w w')
          (first | exact ⟨g0, g1, g2, hQd, bdr⟩ | assumption | exact keep4 HQ.out hb1 (by assumption))
          (first | (go_at_call 15; refine (HLN.out _).mono ?_; rintro e w1 ⟨rfl, hb1⟩))
        obtain ⟨e0, e1, e2, ⟨e3, e4, e5⟩, e6⟩ := ‹_ ∧ _ ∧ _ ∧ (_ ∧ _ ∧ _) ∧ Below w.heap.size w _›
        have E := Lib.hid (show _ ∧ _ ∧ _ ∧ _ from ⟨e0, e1, e2, e6⟩)
        have EM := Lib.hid e4
        have EC := Lib.hid e5
        clear g0 g1 g2 hx hQd bdr e3 e4 e5 e6
        by_cases hyl : y = line
        · have hb : (y == line) = true := beq_iff_eq.2 hyl
          have HYL := Lib.hid hyl
          clear hyl
          have hx0 : 0 ≤ x := by
            rcases Int.lt_or_le x 0 with h | h
            · have h1 := HY.out
              unfold lineI at h1
              rw [if_neg (by omega)] at h1
              have := HYL.out
              omega
            · exact h
          have hxl : x / L = addr / L := by
            have h1 := HY.out
            unfold lineI at h1
            rw [if_pos ⟨HV.out, hx0⟩] at h1
            rw [h1, HYL.out, HLINE.out]
          have hlaw : hitC S L (runC S W L (emptyC S) l1) addr = decide ((D.length : Int) < W) := by
            have h1 := reuse_found HV.out (l1.take k) x (l1.drop (k + 1)) hx0 hxl (fun c hc h0 => by rw [HLINE.out]; exact HNO.out c hc h0)
            rw [← HSP.out] at h1
            rw [h1, HSL.out, ← HO.out.len]
            have := (validB_range HV.out).2.2.1
            rw [decide_eq_decide]; omega
          have HPR := Lib.hid (fun (w' : World) (h : CacheAt w' pb S W L (runC S W L (emptyC S) l1) F) => (hlaw ▸ probe_c h HV.out addr (by omega) (by omega) : Calls Try.prog 26 #[.pointer (some ⟨pb, 0, none⟩), .int .i64 addr] w' fun e w'' => e = .returned (.bool (decide ((D.length : Int) < W))) ∧ Below w'.heap.size w' w''))
          have HQ2 := Lib.hid (show ∀ x' y', Below x'.heap.size x' y' → (fun w' => (∀ ty, (Builtin.len_ #[44] ty #[.map (some mb)]).run Try.prog w' = .ok (.int .i64 D.length) w') ∧ MapAt w' mb ik D ∧ CacheAt w' pb S W L (runC S W L (emptyC S) l1) F) x' → (fun w' => (∀ ty, (Builtin.len_ #[44] ty #[.map (some mb)]).run Try.prog w' = .ok (.int .i64 D.length) w') ∧ MapAt w' mb ik D ∧ CacheAt w' pb S W L (runC S W L (emptyC S) l1) F) y' from
            fun x' y' hb h => ⟨fun ty => (h.2.1.below hb).len Try.underlying44 ty, h.2.1.below hb, h.2.2.below hb⟩)
          clear hlaw hxl
          go_wp2_with fail
          have hb0 := (Below.refl w1.heap.size w1).drew
          have hS0 := keep3 hb0 E.out
          obtain ⟨i0, i1, i2, i3⟩ := hS0
          have hQ0 : (∀ ty, (Builtin.len_ #[44] ty #[.map (some mb)]).run Try.prog w1.drew = .ok (.int .i64 D.length) w1.drew) ∧ MapAt w1.drew mb ik D ∧ CacheAt w1.drew pb S W L (runC S W L (emptyC S) l1) F := ⟨fun ty => (EM.out.below hb0).len Try.underlying44 ty, EM.out.below hb0, EC.out.below hb0⟩
          clear e0 e1 e2 hb0
          go_region_held3 (fun w' => w'.cell? ⟨w.heap.size, 0, none⟩ = some (.int .i64 S) ∧ w'.cell? ⟨w.heap.size, 1, none⟩ = some (.int .i64 W) ∧ w'.cell? ⟨w.heap.size, 2, none⟩ = some (.int .i64 L) ∧ ((∀ ty, (Builtin.len_ #[44] ty #[.map (some mb)]).run Try.prog w' = .ok (.int .i64 D.length) w') ∧ MapAt w' mb ik D ∧ CacheAt w' pb S W L (runC S W L (emptyC S) l1) F) ∧ Below w.heap.size w w')
            (first | exact ⟨i0, i1, i2, hQ0, i3⟩ | assumption | exact keep4 HQ2.out hb5 (by assumption))
            (first | (go_at_call 26; refine (HPR.out _ (by obtain ⟨_, _, _, ⟨_, _, hq⟩, _⟩ := ‹_ ∧ _ ∧ _ ∧ (_ ∧ _ ∧ _) ∧ Below w.heap.size w _›; exact hq)).mono ?_; rintro e w5 ⟨rfl, hb5⟩))
          all_goals obtain ⟨_, _, _, _, bz⟩ := ‹_ ∧ _ ∧ _ ∧ (_ ∧ _ ∧ _) ∧ Below w.heap.size w _›
          all_goals go_wp2_with fail
          all_goals go_ret
          all_goals exact ⟨rfl, bz⟩
        · have hb : (y == line) = false := beq_eq_false_iff_ne.2 hyl
          have HYL := Lib.hid hyl
          clear hyl
          have HNO2 := Lib.hid (show ∀ c ∈ l1.drop k, 0 ≤ c → c / L ≠ line by
            rw [HDR.out]
            intro c hc h0
            rcases List.mem_cons.1 hc with rfl | hc
            · have h1 := HY.out
              unfold lineI at h1
              rw [if_pos ⟨HV.out, h0⟩] at h1
              rw [h1]; exact HYL.out
            · exact HNO.out c hc h0)
          have hb0 := (Below.refl w1.heap.size w1).drew
          obtain ⟨i0, i1, i2, i3⟩ := keep3 hb0 E.out
          clear e0 e1 e2 hb0
          go_wp2_with fail
          by_cases hy0 : 0 ≤ y
          · have hd0 : decide (0 ≤ y) = true := decide_eq_true hy0
            have hx0 : 0 ≤ x := by
              rcases Int.lt_or_le x 0 with h | h
              · have h1 := HY.out
                unfold lineI at h1
                rw [if_neg (by omega)] at h1
                omega
              · exact h
            have HXY := Lib.hid (show x / L = y by
              have h1 := HY.out
              unfold lineI at h1
              rwa [if_pos ⟨HV.out, hx0⟩] at h1)
            have tok1 : True := trivial
            have HS1 := Lib.hid (fun w => set_val S W L y w HV.out hy0 hy2)
            have HS2 := Lib.hid (fun w => set_val S W L line w HV.out hl0 (by omega))
            obtain ⟨n1, hn1⟩ : ∃ n, setN S y = n := ⟨_, rfl⟩
            obtain ⟨n2, hn2⟩ : ∃ n, setN S line = n := ⟨_, rfl⟩
            rw [hn1] at HS1
            rw [hn2] at HS2
            have HN1 := Lib.hid hn1
            have HN2 := Lib.hid hn2
            clear hn1 hn2
            go_cut [70] (fun s70 wx => s70 = .bool ((n1 : Int) == (n2 : Int)) ∧ MapAt wx mb ik D ∧ CacheAt wx pb S W L (runC S W L (emptyC S) l1) F ∧ (wx.cell? ⟨w.heap.size, 0, none⟩ = some (.int .i64 S) ∧ wx.cell? ⟨w.heap.size, 1, none⟩ = some (.int .i64 W) ∧ wx.cell? ⟨w.heap.size, 2, none⟩ = some (.int .i64 L) ∧ Below w.heap.size w wx))
            case first =>
              have HQ3 := Lib.hid (show ∀ x' y', Below x'.heap.size x' y' → (fun w' => MapAt w' mb ik D ∧ CacheAt w' pb S W L (runC S W L (emptyC S) l1) F) x' → (fun w' => MapAt w' mb ik D ∧ CacheAt w' pb S W L (runC S W L (emptyC S) l1) F) y' from fun x' y' hb h => ⟨h.1.below hb, h.2.below hb⟩)
              have hQ0 : (fun w' => MapAt w' mb ik D ∧ CacheAt w' pb S W L (runC S W L (emptyC S) l1) F) w1.drew := ⟨EM.out.below (Below.refl _ _).drew, EC.out.below (Below.refl _ _).drew⟩
              go_region_held3 (fun w' => w'.cell? ⟨w.heap.size, 0, none⟩ = some (.int .i64 S) ∧ w'.cell? ⟨w.heap.size, 1, none⟩ = some (.int .i64 W) ∧ w'.cell? ⟨w.heap.size, 2, none⟩ = some (.int .i64 L) ∧ (MapAt w' mb ik D ∧ CacheAt w' pb S W L (runC S W L (emptyC S) l1) F) ∧ Below w.heap.size w w')
                (first | exact ⟨i0, i1, i2, hQ0, i3⟩ | assumption | exact keep4 HQ3.out hb5 (by assumption) | exact keep4 HQ3.out hb6 (by assumption))
                (first | (go_at_call 17; have _t := tok1; refine (HS1.out _).mono ?_; rintro e w5 ⟨rfl, hb5⟩; clear tok1 _t) | (go_at_call 17; refine (HS2.out _).mono ?_; rintro e w6 ⟨rfl, hb6⟩))
              all_goals obtain ⟨j0, j1, j2, ⟨j3, j4⟩, bz⟩ := ‹_ ∧ _ ∧ _ ∧ (_ ∧ _) ∧ Below w.heap.size w _›
              all_goals
                go_wp2_with fail
                go_meet
                exact ⟨rfl, j3, j4, j0, j1, j2, bz⟩
            case rest =>
              obtain ⟨rfl, hm, hc, hk⟩ := hcut
              have HM3 := Lib.hid hm
              have HC3 := Lib.hid hc
              have HK3 := Lib.hid hk
              clear hm hc hk i0 i1 i2 i3
              by_cases hnn : n1 = n2
              · have hdn : ((n1 : Int) == (n2 : Int)) = true := by simp [hnn]
                obtain ⟨wu, hrun, hmu, hcu, hsu⟩ := HM3.out.update mk44 Try.underlying44 y (.bool true)
                have hrun' : (Instr.mapUpdate 44 (.map (some mb)) (.int .i64 y) (.bool true)).run Try.prog wc = .ok () wu := hrun
                have HMU := Lib.hid hmu
                have HO2 := Lib.hid (HO.out.more (a := x) hx0 (by rw [HXY.out, HN1.out, HN2.out]; exact hnn) (.bool true))
                have HKU := Lib.hid (keepC (F := fun i => i = mb) hcu (fun k hk => by rw [hk]; exact HWM.out) HK3.out)
                have HCU := Lib.hid (HC3.out.kept hcu (fun k hk h => by rw [h] at hk; have := HFM.out mb hk; omega))
                clear hrun hmu hcu hsu hnn
                go_wp2_with fail
                go_roundw
                case rel => exact ⟨k, _, _, by omega, rfl, by go_num, by rw [HDR.out]; exact HO2.out, HNO2.out, by rw [HXY.out]; exact HMU.out, HCU.out, HKU.out⟩
                case measure => simp only [intOf]; omega
              · have hdn : ((n1 : Int) == (n2 : Int)) = false := beq_eq_false_iff_ne.2 (by omega)
                have HO2 := Lib.hid (HO.out.keep (a := x) (by rw [HXY.out, HN1.out, HN2.out]; exact fun h => hnn h.2))
                clear hnn
                go_wp2_with fail
                go_roundw
                case rel => exact ⟨k, _, D, by omega, rfl, by go_num, by rw [HDR.out]; exact HO2.out, HNO2.out, HM3.out, HC3.out, HK3.out⟩
                case measure => simp only [intOf]; omega
          · have hd0 : decide (0 ≤ y) = false := decide_eq_false hy0
            have HO2 := Lib.hid (HO.out.keep (a := x) (by
              intro h
              have h1 := HY.out
              unfold lineI at h1
              rw [if_pos ⟨HV.out, h.1⟩] at h1
              have := (line_range (B := 9223372036854775807) (validB_range HV.out).2.2.2.2.1 h.1 hx2).1
              omega))
            go_quiet (fail)
            go_wp2_with fail
            go_roundw
            case rel => exact ⟨k, _, D, by omega, rfl, by go_num, by rw [HDR.out]; exact HO2.out, HNO2.out, EM.out.below (below_drewN' _ _), EC.out.below (below_drewN' _ _), keep3 (below_drewN' _ _) E.out⟩
            case measure => simp only [intOf]; omega
      · have hi0 : i = 0 := by omega
        subst hi0
        have hj0 : j < 0 := by omega
        have hlaw : hitC S L (runC S W L (emptyC S) l1) addr = false := reuse_none HV.out l1 (fun c hc h0 => by rw [HLINE.out]; exact HNO.out c (by simpa using hc) h0)
        have HPR := Lib.hid (hlaw ▸ probe_c HC.out HV.out addr (by omega) (by omega) : Calls Try.prog 26 #[.pointer (some ⟨pb, 0, none⟩), .int .i64 addr] wr fun e w'' => e = .returned (.bool false) ∧ Below wr.heap.size wr w'')
        clear hlaw hj
        go_wp2_with fail
        refine HPR.out.mono ?_
        rintro e w5 ⟨rfl, hb5⟩
        have BZ := Lib.hid (HK.out.2.2.2.trans (hb5.mono HK.out.2.2.2.size))
        clear hb5
        go_wp2_with fail
        go_ret
        exact ⟨rfl, BZ.out⟩
  · have HM := Lib.hid (made_no S W L (.slice a1 l1.length c1) w1 (Bool.eq_false_iff.2 hv))
    clear hv
    refine HM.out.mono ?_
    rintro e w2 ⟨rfl, hb2⟩
    have hbb := b1.trans (hb2.mono b1.size)
    have HBB := Lib.hid hbb
    clear hb2 hbb
    go_wp2_with fail
    refine (HG1.out _ HBB.out).mono ?_
    rintro e w2 ⟨rfl, rfl⟩
    go_wp2_with fail
    all_goals go_ret
    all_goals exact ⟨rfl, HBB.out⟩

end Go.Proofs.Ytgpakmcboppfhaa
