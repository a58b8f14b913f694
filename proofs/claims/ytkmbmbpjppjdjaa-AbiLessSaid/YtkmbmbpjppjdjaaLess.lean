/- Walks: the law 'AbiLess'. -/
import Derived.Test.YtkmbmbpjppjdjaaLess1
import Derived.Test.YtkmbmbpjppjdjaaTells
import Derived.Test.YtkmbmbpjppjdjaaRoom
import Derived.Test.YtkmbmbpjppjdjaaPages
namespace Go.Proofs.Ytkmbmbpjppjdjaa
open Go.RowKit Go.Maps TmP
set_option linter.unusedSimpArgs false
set_option linter.unusedVariables false
set_option maxRecDepth 100000

set_option maxHeartbeats 3200000 in
theorem less_law (budget f p : Int) (va vb vc : Value) (la lb : List ByteArray) (lc : List Cap) (w : World) (hf0 : 0 ≤ f) (hf1 : f < 18446744073709551616)
    (ha : SeqAt strE 1 w va la (fun k => k < w.heap.size)) (hb : SeqAt strE 1 w vb lb (fun k => k < w.heap.size)) (hc : SeqAt capE 6 w vc lc (fun k => k < w.heap.size)) (sa : Slc va) (sb : Slc vb) (sc : Slc vc)
    (hsa : ∀ x ∈ la, x.size ≤ 140737488355328) (hsb : ∀ x ∈ lb, x.size ≤ 140737488355328) (hU : ∀ c ∈ lc, Cap.U c)
    (hna : la.length ≤ 1152921504606846976) (hnb : lb.length ≤ 1152921504606846976) (hnc : lc.length ≤ 1152921504606846976) :
    Calls Try.prog 13 #[.int .i64 budget, .int .u64 f, .int .i64 p, va, vb, vc] w fun e w' => e = .returned (.bool true) ∧ Kept Non w w' := by
  have H0 := Lib.hid (awake_any w)
  have hri := fun w' (hk : Kept Non w w') => aright_any vc lc w' (hc.kept0 hk) hnc
  generalize (lc.all okR && decide ((lc.length : Int) ≤ 20)) = R at hri
  have HRI := Lib.hid hri
  clear hri
  by_cases hbud : budget < 0 ∨ 256 < budget
  · have hnw := fun w => new_bad w budget hbud
    cases R
    · clear ha hb hc hsa hsb hU hbud
      go_enter Try.func13, Try.ntmps13
      go_wp2_with (first
        | (go_at_call 15; refine H0.out.mono ?_; rintro e w1 ⟨rfl, hk⟩; have HK0 := Lib.hid hk; clear hk)
        | (go_at_call 38; refine (HRI.out _ HK0.out).mono ?_; rintro e w1' ⟨rfl, hk⟩; have HK1 := Lib.hid (HK0.out.trans hk); clear hk)
        | (go_at_call 16; refine (hnw _).mono ?_; rintro e w2 ⟨rfl, rfl⟩; have HK2 := Lib.hid HK1.out))
      go_ret
      exact ⟨rfl, HK2.out⟩
    · clear ha hb hc hsa hsb hU hbud
      go_enter Try.func13, Try.ntmps13
      go_wp2_with (first
        | (go_at_call 15; refine H0.out.mono ?_; rintro e w1 ⟨rfl, hk⟩; have HK0 := Lib.hid hk; clear hk)
        | (go_at_call 38; refine (HRI.out _ HK0.out).mono ?_; rintro e w1' ⟨rfl, hk⟩; have HK1 := Lib.hid (HK0.out.trans hk); clear hk)
        | (go_at_call 16; refine (hnw _).mono ?_; rintro e w2 ⟨rfl, rfl⟩; have HK2 := Lib.hid HK1.out))
      go_ret
      exact ⟨rfl, HK2.out⟩
  obtain ⟨aa, ca, rfl⟩ : ∃ ao c, va = .slice ao la.length c := by obtain ⟨ao, c, h, _⟩ := ha; exact ⟨ao, c, h⟩
  obtain ⟨ab, cb, rfl⟩ : ∃ ao c, vb = .slice ao lb.length c := by obtain ⟨ao, c, h, _⟩ := hb; exact ⟨ao, c, h⟩
  have hnw := fun w => new_ok w budget (by omega) (by omega)
  cases R
  · clear ha hb hc hsa hsb hU hbud
    go_enter Try.func13, Try.ntmps13
    go_wp2_with (first
      | (go_at_call 15; refine H0.out.mono ?_; rintro e w1 ⟨rfl, hk⟩; have HK0 := Lib.hid hk; clear hk)
      | (go_at_call 38; refine (HRI.out _ HK0.out).mono ?_; rintro e w1' ⟨rfl, hk⟩; have HK1 := Lib.hid (HK0.out.trans hk); clear hk)
      | (go_at_call 16; refine (hnw _).mono ?_; rintro e w2 ⟨rfl, _, hk⟩; have HK2 := Lib.hid (HK1.out.trans hk); clear hk))
    go_ret
    exact ⟨rfl, HK2.out⟩
  by_cases g1 : p < -9
  · have d1 : decide (p < -9) = true := by simp; omega
    clear ha hb hc hsa hsb hU hbud
    go_enter Try.func13, Try.ntmps13
    go_wp2_with (first
      | (go_at_call 15; refine H0.out.mono ?_; rintro e w1 ⟨rfl, hk⟩; have HK0 := Lib.hid hk; clear hk)
      | (go_at_call 38; refine (HRI.out _ HK0.out).mono ?_; rintro e w1' ⟨rfl, hk⟩; have HK1 := Lib.hid (HK0.out.trans hk); clear hk)
      | (go_at_call 16; refine (hnw _).mono ?_; rintro e w2 ⟨rfl, _, hk⟩; have HK2 := Lib.hid (HK1.out.trans hk); clear hk))
    go_ret
    exact ⟨rfl, HK2.out⟩
  have d1 : decide (p < -9) = false := by simp; omega
  by_cases g2 : 300 < p
  · have d2 : decide (300 < p) = true := by simp; omega
    clear ha hb hc hsa hsb hU hbud
    go_enter Try.func13, Try.ntmps13
    go_wp2_with (first
      | (go_at_call 15; refine H0.out.mono ?_; rintro e w1 ⟨rfl, hk⟩; have HK0 := Lib.hid hk; clear hk)
      | (go_at_call 38; refine (HRI.out _ HK0.out).mono ?_; rintro e w1' ⟨rfl, hk⟩; have HK1 := Lib.hid (HK0.out.trans hk); clear hk)
      | (go_at_call 16; refine (hnw _).mono ?_; rintro e w2 ⟨rfl, _, hk⟩; have HK2 := Lib.hid (HK1.out.trans hk); clear hk))
    go_ret
    exact ⟨rfl, HK2.out⟩
  have d2 : decide (300 < p) = false := by simp; omega
  by_cases g3 : 20 < la.length
  · have d3 : decide (20 < (la.length : Int)) = true := by simp; omega
    clear ha hb hc hsa hsb hU hbud
    go_enter Try.func13, Try.ntmps13
    go_wp2_with (first
      | (go_at_call 15; refine H0.out.mono ?_; rintro e w1 ⟨rfl, hk⟩; have HK0 := Lib.hid hk; clear hk)
      | (go_at_call 38; refine (HRI.out _ HK0.out).mono ?_; rintro e w1' ⟨rfl, hk⟩; have HK1 := Lib.hid (HK0.out.trans hk); clear hk)
      | (go_at_call 16; refine (hnw _).mono ?_; rintro e w2 ⟨rfl, _, hk⟩; have HK2 := Lib.hid (HK1.out.trans hk); clear hk))
    go_ret
    exact ⟨rfl, HK2.out⟩
  have d3 : decide (20 < (la.length : Int)) = false := by simp; omega
  by_cases g4 : 20 < lb.length
  · have d4 : decide (20 < (lb.length : Int)) = true := by simp; omega
    clear ha hb hc hsa hsb hU hbud
    go_enter Try.func13, Try.ntmps13
    go_wp2_with (first
      | (go_at_call 15; refine H0.out.mono ?_; rintro e w1 ⟨rfl, hk⟩; have HK0 := Lib.hid hk; clear hk)
      | (go_at_call 38; refine (HRI.out _ HK0.out).mono ?_; rintro e w1' ⟨rfl, hk⟩; have HK1 := Lib.hid (HK0.out.trans hk); clear hk)
      | (go_at_call 16; refine (hnw _).mono ?_; rintro e w2 ⟨rfl, _, hk⟩; have HK2 := Lib.hid (HK1.out.trans hk); clear hk))
    go_ret
    exact ⟨rfl, HK2.out⟩
  have d4 : decide (20 < (lb.length : Int)) = false := by simp; omega
  have hbl := fun w' m F (hk : Kept Non w w') (hm : MemAt w' m (PM.new budget) F) (hF : ∀ k, k < w.heap.size → ¬ F k) => build_any m f p _ _ vc la lb lc w' hm (ha.kept0 hk) (hb.kept0 hk) (hc.kept0 hk) sa sb sc hF hF hF hna hnb hnc hsa hsb hU hf0 hf1 (by omega) (by omega)
  by_cases hE : buildE (PM.new budget) f p la lb lc = 0
  · obtain ⟨hR, hM, F⟩ := fits_of hE hf0
    obtain ⟨hp1, hp2⟩ := (map_inn hM hf0).2
    obtain ⟨_, hsa', hsb', hu, hm', he, ht⟩ := F
    have e2 : at2 f la lb = at1 f la lb + 32 * ((la.length : Int) + 1) := rfl
    have e3 : at3 f la lb = at2 f la lb + 32 * ((lb.length : Int) + 1) := rfl
    have e4 : at4 f la lb lc.length = at3 f la lb + 32 * ((lc.length : Int) + 1) := rfl
    rw [hE, buildV_0 hE] at hbl
    have q1 : f * 256 ≤ at1 f la lb := by omega
    have q2 : at1 f la lb + 32 * (la.length : Int) < at2 f la lb := by omega
    have q3 : at2 f la lb + 32 * (lb.length : Int) < at3 f la lb := by omega
    have q4 : at3 f la lb + 32 * (lc.length : Int) < at4 f la lb lc.length := by omega
    have q5 : at4 f la lb lc.length + 64 ≤ (f + p) * 256 := he
    have q6 : (f + p) * 256 ≤ 16777216 := ht
    unfold stackC ofC at hbl
    have HBL := Lib.hid hbl
    clear ha hb hc hsa hsb hU hbud hE hM hbl sa sb sc e2 e3 e4 hu hm' he ht hsa' hsb' hR
    generalize at1 f la lb = A1 at HBL q1 q2
    generalize at2 f la lb = A2 at HBL q2 q3
    generalize at3 f la lb = A3 at HBL q3 q4
    generalize at4 f la lb lc.length = A4 at HBL q4 q5
    obtain ⟨T1, hT1⟩ : ∃ T, T = A1 + 32 * (la.length : Int) := ⟨_, rfl⟩
    obtain ⟨T2, hT2⟩ : ∃ T, T = A2 + 32 * (lb.length : Int) := ⟨_, rfl⟩
    obtain ⟨T3, hT3⟩ : ∃ T, T = A3 + 32 * (lc.length : Int) := ⟨_, rfl⟩
    rw [← hT1] at HBL q2
    rw [← hT2] at HBL q3
    rw [← hT3] at HBL q4
    obtain ⟨E, hEE⟩ : ∃ E, E = (f + p) * 256 := ⟨_, rfl⟩
    rw [← hEE] at HBL q5 q6
    have u1 : A1 ≤ T1 := by omega
    have u2 : A2 ≤ T2 := by omega
    have u3 : A3 ≤ T3 := by omega
    have u4 : E ≤ (f + p) * 256 := by omega
    clear hT1 hT2 hT3 hEE
    go_enter Try.func13, Try.ntmps13
    go_wp2_with (first
      | (go_at_call 15; refine H0.out.mono ?_; rintro e w1 ⟨rfl, hk⟩; have HK0 := Lib.hid hk; clear hk)
      | (go_at_call 38; refine (HRI.out _ HK0.out).mono ?_; rintro e w1' ⟨rfl, hk⟩; have HK1 := Lib.hid (HK0.out.trans hk); clear hk)
      | (go_at_call 16; refine (hnw _).mono ?_; rintro e w2 ⟨rfl, hm, hk⟩; have HK2 := Lib.hid (HK1.out.trans hk); have HM2 := Lib.hid hm; clear hk hm))
    have hsz1 := HK1.out.size
    refine (HBL.out _ _ _ HK2.out HM2.out (fun k hk hf => by omega)).mono ?_
    rintro e w3 ⟨rfl, F3, hm, hk, hF⟩
    have HK3 := Lib.hid (HK2.out.then_ hk (fun k hk => .inr (by omega)))
    clear hk hm hF
    go_upto_region 7 with (refine wpList_store_row rfl 32 (.tmp 17) (.tmp 63) rfl w3.heap.size (startL ⟨A4, E, E, 27, -1, true⟩ ⟨A1, T1, A1, 9, -1, true⟩ ⟨A2, T2, A2, 9, -1, true⟩ ⟨A3, T3, A3, 9, -1, true⟩).toArray rfl rfl 32 _ (blk_new w3 _) (by kernel_rfl) rfl (oneStart _ _ _ _) ?_)
    have hkA := ((Kept.refl Non w3).alloc (.cells #[.int .u64 0, .int .u64 0, .int .u64 0, .int .i64 0, .int .i64 0, .bool false, .int .u64 0, .int .u64 0, .int .u64 0, .int .i64 0, .int .i64 0, .bool false, .int .u64 0, .int .u64 0, .int .u64 0, .int .i64 0, .int .i64 0, .bool false, .int .u64 0, .int .u64 0, .int .u64 0, .int .i64 0, .int .i64 0, .bool false] 32)).setRow (g := w3.heap.size) (.inr (Nat.le_refl _)) (startL ⟨A4, E, E, 27, -1, true⟩ ⟨A1, T1, A1, 9, -1, true⟩ ⟨A2, T2, A2, 9, -1, true⟩ ⟨A3, T3, A3, 9, -1, true⟩).toArray
    have hbk := setRow_heap (w3.alloc (.cells #[.int .u64 0, .int .u64 0, .int .u64 0, .int .i64 0, .int .i64 0, .bool false, .int .u64 0, .int .u64 0, .int .u64 0, .int .i64 0, .int .i64 0, .bool false, .int .u64 0, .int .u64 0, .int .u64 0, .int .i64 0, .int .i64 0, .bool false, .int .u64 0, .int .u64 0, .int .u64 0, .int .i64 0, .int .i64 0, .bool false] 32)) w3.heap.size _ (startL ⟨A4, E, E, 27, -1, true⟩ ⟨A1, T1, A1, 9, -1, true⟩ ⟨A2, T2, A2, 9, -1, true⟩ ⟨A3, T3, A3, 9, -1, true⟩).toArray 32 (0, 0) (blk_new w3 _)
    generalize (w3.alloc (.cells #[.int .u64 0, .int .u64 0, .int .u64 0, .int .i64 0, .int .i64 0, .bool false, .int .u64 0, .int .u64 0, .int .u64 0, .int .i64 0, .int .i64 0, .bool false, .int .u64 0, .int .u64 0, .int .u64 0, .int .i64 0, .int .i64 0, .bool false, .int .u64 0, .int .u64 0, .int .u64 0, .int .i64 0, .int .i64 0, .bool false] 32)).setRow w3.heap.size (startL ⟨A4, E, E, 27, -1, true⟩ ⟨A1, T1, A1, 9, -1, true⟩ ⟨A2, T2, A2, 9, -1, true⟩ ⟨A3, T3, A3, 9, -1, true⟩).toArray = w4 at hkA hbk ⊢
    have HBK := Lib.hid hbk
    have HK4 := Lib.hid (HK3.out.trans hkA)
    clear hkA hbk
    go_wp2_with (refine wpList_load_row rfl 32 (.tmp 17) rfl w3.heap.size rfl 32 (startL ⟨A4, E, E, 27, -1, true⟩ ⟨A1, T1, A1, 9, -1, true⟩ ⟨A2, T2, A2, 9, -1, true⟩ ⟨A3, T3, A3, 9, -1, true⟩).toArray (0, 0) _ HBK.out Try.underlying32 rfl (by kernel_rfl) ?_)
    refine (start_any ⟨A4, E, E, 27, -1, true⟩ ⟨A1, T1, A1, 9, -1, true⟩ ⟨A2, T2, A2, 9, -1, true⟩ ⟨A3, T3, A3, 9, -1, true⟩ _).mono ?_
    rintro e w5 ⟨g, rfl, hg, hk⟩
    obtain ⟨⟨c0, c1, c2, c3, c4, c5⟩, ⟨c6, c7, c8, c9, c10, c11⟩, ⟨c12, c13, c14, c15, c16, c17⟩, ⟨c18, c19, c20, c21, c22, c23⟩⟩ := start_cells hg
    obtain ⟨⟨s0, s1, s2, s3, s4, s5⟩, ⟨s6, s7, s8, s9, s10, s11⟩, ⟨s12, s13, s14, s15, s16, s17⟩, ⟨s18, s19, s20, s21, s22, s23⟩⟩ := start_cells (hk.blk HBK.out (fun h => h))
    have HK5 := Lib.hid (HK4.out.trans hk)
    clear hk hg
    have b1 : bits .and .i64 27 228 = 0 := by kernel_rfl
    have b2 : bits .and .i64 9 228 = 0 := by kernel_rfl
    have b3 : bits .and .i64 27 2 = 2 := by kernel_rfl
    have b4 : bits .and .i64 9 2 = 0 := by kernel_rfl
    go_wp2_with fail
    refine wp_loop_rounds 5 ?_
    rw [rounds_succ]
    go_wp2
    rw [rounds_succ]
    go_wp2
    rw [rounds_succ]
    go_wp2
    rw [rounds_succ]
    go_wp2
    rw [rounds_succ]
    go_wp2
    go_ret
    exact ⟨rfl, HK5.out⟩
  · have hne : (buildE (PM.new budget) f p la lb lc != 0) = true := by simpa using hE
    have hM : (PM.new budget).buildM f p la lb lc = PM.new budget := by unfold PM.buildM; rw [if_neg hE]
    rw [buildV_1 hE, hM] at hbl
    have HBL := Lib.hid hbl
    clear ha hb hc hsa hsb hU hbud hE hM hbl sa sb sc
    generalize buildE (PM.new budget) f p la lb lc = E at HBL hne
    go_enter Try.func13, Try.ntmps13
    go_wp2_with (first
      | (go_at_call 15; refine H0.out.mono ?_; rintro e w1 ⟨rfl, hk⟩; have HK0 := Lib.hid hk; clear hk)
      | (go_at_call 38; refine (HRI.out _ HK0.out).mono ?_; rintro e w1' ⟨rfl, hk⟩; have HK1 := Lib.hid (HK0.out.trans hk); clear hk)
      | (go_at_call 16; refine (hnw _).mono ?_; rintro e w2 ⟨rfl, hm, hk⟩; have HK2 := Lib.hid (HK1.out.trans hk); have HM2 := Lib.hid hm; clear hk hm))
    have hsz1 := HK1.out.size
    refine (HBL.out _ _ _ HK2.out HM2.out (fun k hk hf => by omega)).mono ?_
    rintro e w3 ⟨rfl, F3, hm, hk, hF⟩
    have HM3 := Lib.hid hm
    have HK3 := Lib.hid (HK2.out.then_ hk (fun k hk => .inr (by omega)))
    clear hk hm hF
    go_upto_region 7 with (refine wpList_store_row rfl 32 (.tmp 17) (.tmp 63) rfl w3.heap.size (startL zc zc zc zc).toArray rfl rfl 32 _ (blk_new w3 _) (by kernel_rfl) rfl (oneStart _ _ _ _) ?_)
    have hkA := ((Kept.refl Non w3).alloc (.cells #[.int .u64 0, .int .u64 0, .int .u64 0, .int .i64 0, .int .i64 0, .bool false, .int .u64 0, .int .u64 0, .int .u64 0, .int .i64 0, .int .i64 0, .bool false, .int .u64 0, .int .u64 0, .int .u64 0, .int .i64 0, .int .i64 0, .bool false, .int .u64 0, .int .u64 0, .int .u64 0, .int .i64 0, .int .i64 0, .bool false] 32)).setRow (g := w3.heap.size) (.inr (Nat.le_refl _)) (startL zc zc zc zc).toArray
    have hbk := setRow_heap (w3.alloc (.cells #[.int .u64 0, .int .u64 0, .int .u64 0, .int .i64 0, .int .i64 0, .bool false, .int .u64 0, .int .u64 0, .int .u64 0, .int .i64 0, .int .i64 0, .bool false, .int .u64 0, .int .u64 0, .int .u64 0, .int .i64 0, .int .i64 0, .bool false, .int .u64 0, .int .u64 0, .int .u64 0, .int .i64 0, .int .i64 0, .bool false] 32)) w3.heap.size _ (startL zc zc zc zc).toArray 32 (0, 0) (blk_new w3 _)
    generalize (w3.alloc (.cells #[.int .u64 0, .int .u64 0, .int .u64 0, .int .i64 0, .int .i64 0, .bool false, .int .u64 0, .int .u64 0, .int .u64 0, .int .i64 0, .int .i64 0, .bool false, .int .u64 0, .int .u64 0, .int .u64 0, .int .i64 0, .int .i64 0, .bool false, .int .u64 0, .int .u64 0, .int .u64 0, .int .i64 0, .int .i64 0, .bool false] 32)).setRow w3.heap.size (startL zc zc zc zc).toArray = w4 at hkA hbk ⊢
    have HBK := Lib.hid hbk
    have HK4 := Lib.hid (HK3.out.trans hkA)
    have HKA := Lib.hid hkA
    clear hkA hbk
    go_wp2_with fail
    refine (pages_any (HM3.out.kept0 HKA.out)).mono ?_
    rintro e w5 ⟨v5, rfl, ho, hk⟩
    obtain ⟨pp, cap, rfl⟩ : ∃ pp cap, v5 = .slice pp 0 cap := by
      obtain ⟨_, ⟨h1, _⟩ | ⟨g, cap, cur, h1, _⟩⟩ := ho
      · exact ⟨none, 0, h1⟩
      · exact ⟨_, cap, h1⟩
    obtain ⟨⟨_, _, _, _, _, s5⟩, ⟨_, _, _, _, _, s11⟩, _, _⟩ := start_cells (hk.blk HBK.out (fun h => h))
    have HK5 := Lib.hid (HK4.out.trans hk)
    clear hk ho
    simp only [zc] at s5 s11
    go_wp2_with fail
    go_ret
    exact ⟨rfl, HK5.out⟩

end Go.Proofs.Ytkmbmbpjppjdjaa
