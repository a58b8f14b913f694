/- Walks: the law 'AbiTexts'. -/
import Derived.Test.YtkmbmbpjppjdjaaTells
import Derived.Test.YtkmbmbpjppjdjaaRoom
namespace Go.Proofs.Ytkmbmbpjppjdjaa
open Go.RowKit Go.Maps TmP
set_option linter.unusedSimpArgs false
set_option linter.unusedVariables false
set_option maxRecDepth 100000

set_option maxHeartbeats 1600000 in
theorem texts_law (budget f p : Int) (va vb : Value) (la lb : List ByteArray) (w : World) (hf0 : 0 ≤ f) (hf1 : f < 18446744073709551616)
    (ha : SeqAt strE 1 w va la (fun k => k < w.heap.size)) (hb : SeqAt strE 1 w vb lb (fun k => k < w.heap.size)) (sa : Slc va) (sb : Slc vb)
    (hsa : ∀ x ∈ la, x.size ≤ 140737488355328) (hsb : ∀ x ∈ lb, x.size ≤ 140737488355328)
    (hna : la.length ≤ 1152921504606846976) (hnb : lb.length ≤ 1152921504606846976) :
    Calls Try.prog 3 #[.int .i64 budget, .int .u64 f, .int .i64 p, va, vb] w fun e w' => e = .returned (.bool true) ∧ Kept Non w w' := by
  have H0 := Lib.hid (awake_any w)
  by_cases hbud : budget < 0 ∨ 256 < budget
  · have hnw := fun w => new_bad w budget hbud
    clear ha hb hsa hsb hbud
    go_enter Try.func3, Try.ntmps3
    go_wp2_with (first
      | (go_at_call 15; refine H0.out.mono ?_; rintro e w1 ⟨rfl, hk⟩; have HK1 := Lib.hid hk; clear hk)
      | (go_at_call 16; refine (hnw _).mono ?_; rintro e w2 ⟨rfl, rfl⟩))
    go_ret
    exact ⟨rfl, HK1.out⟩
  obtain ⟨aa, ca, rfl⟩ : ∃ ao c, va = .slice ao la.length c := by obtain ⟨ao, c, h, _⟩ := ha; exact ⟨ao, c, h⟩
  obtain ⟨ab, cb, rfl⟩ : ∃ ao c, vb = .slice ao lb.length c := by obtain ⟨ao, c, h, _⟩ := hb; exact ⟨ao, c, h⟩
  have hnw := fun w => new_ok w budget (by omega) (by omega)
  by_cases g1 : p < -9
  · have d1 : decide (p < -9) = true := by simpa using g1
    clear ha hb hsa hsb hbud
    go_enter Try.func3, Try.ntmps3
    go_wp2_with (first
      | (go_at_call 15; refine H0.out.mono ?_; rintro e w1 ⟨rfl, hk⟩; have HK1 := Lib.hid hk; clear hk)
      | (go_at_call 16; refine (hnw _).mono ?_; rintro e w2 ⟨rfl, _, hk⟩; have HK2 := Lib.hid (HK1.out.trans hk); clear hk))
    go_ret
    exact ⟨rfl, HK2.out⟩
  have d1 : decide (p < -9) = false := by simpa using g1
  by_cases g2 : 300 < p
  · have d2 : decide (300 < p) = true := by simpa using g2
    clear ha hb hsa hsb hbud
    go_enter Try.func3, Try.ntmps3
    go_wp2_with (first
      | (go_at_call 15; refine H0.out.mono ?_; rintro e w1 ⟨rfl, hk⟩; have HK1 := Lib.hid hk; clear hk)
      | (go_at_call 16; refine (hnw _).mono ?_; rintro e w2 ⟨rfl, _, hk⟩; have HK2 := Lib.hid (HK1.out.trans hk); clear hk))
    go_ret
    exact ⟨rfl, HK2.out⟩
  have d2 : decide (300 < p) = false := by simpa using g2
  by_cases g3 : 20 < la.length
  · have d3 : decide (20 < (la.length : Int)) = true := by simp; omega
    clear ha hb hsa hsb hbud
    go_enter Try.func3, Try.ntmps3
    go_wp2_with (first
      | (go_at_call 15; refine H0.out.mono ?_; rintro e w1 ⟨rfl, hk⟩; have HK1 := Lib.hid hk; clear hk)
      | (go_at_call 16; refine (hnw _).mono ?_; rintro e w2 ⟨rfl, _, hk⟩; have HK2 := Lib.hid (HK1.out.trans hk); clear hk))
    go_ret
    exact ⟨rfl, HK2.out⟩
  have d3 : decide (20 < (la.length : Int)) = false := by simp; omega
  by_cases g4 : 20 < lb.length
  · have d4 : decide (20 < (lb.length : Int)) = true := by simp; omega
    clear ha hb hsa hsb hbud
    go_enter Try.func3, Try.ntmps3
    go_wp2_with (first
      | (go_at_call 15; refine H0.out.mono ?_; rintro e w1 ⟨rfl, hk⟩; have HK1 := Lib.hid hk; clear hk)
      | (go_at_call 16; refine (hnw _).mono ?_; rintro e w2 ⟨rfl, _, hk⟩; have HK2 := Lib.hid (HK1.out.trans hk); clear hk))
    go_ret
    exact ⟨rfl, HK2.out⟩
  have d4 : decide (20 < (lb.length : Int)) = false := by simp; omega
  have hbl := fun w' m F (hk : Kept Non w w') (hm : MemAt w' m (PM.new budget) F) (hF : ∀ k, k < w.heap.size → ¬ F k) => build_any (Gc := fun _ => False) m f p _ _ (.slice none 0 0) la lb [] w' hm (ha.kept0 hk) (hb.kept0 hk) (SeqAt.nil _ _ _ _) sa sb (.inl rfl) hF hF (fun _ h => h.elim) hna hnb (by simp) hsa hsb (by simp) hf0 hf1 (by omega) (by omega)
  by_cases hE : buildE (PM.new budget) f p la lb [] = 0
  · have ht1 := tells_args hE hf0
    have ht2 := tells_env hE hf0
    have ht3 := tells_none hE hf0
    have hM : (PM.new budget).buildM f p la lb [] = (PM.new budget).built f p la lb [] := by unfold PM.buildM; rw [if_pos hE]
    rw [hE, buildV_0 hE, hM] at hbl
    generalize (PM.new budget).built f p la lb [] = MB at hbl ht1 ht2 ht3
    have T1 := Lib.hid ht1
    have T2 := Lib.hid ht2
    have T3 := Lib.hid ht3
    have HA := Lib.hid ha
    have HB := Lib.hid hb
    have HBL := Lib.hid hbl
    clear ha hb hsa hsb hbud hE hM ht1 ht2 ht3 hbl sa sb
    go_enter Try.func3, Try.ntmps3
    go_wp2_with (first
      | (go_at_call 15; refine H0.out.mono ?_; rintro e w1 ⟨rfl, hk⟩; have HK1 := Lib.hid hk; clear hk)
      | (go_at_call 16; refine (hnw _).mono ?_; rintro e w2 ⟨rfl, hm, hk⟩; have HK2 := Lib.hid (HK1.out.trans hk); have HM2 := Lib.hid hm; clear hk hm))
    have hsz1 := HK1.out.size
    refine (HBL.out _ _ _ HK2.out HM2.out (fun k hk hf => by omega)).mono ?_
    rintro e w3 ⟨rfl, F3, hm, hk, hF⟩
    have HM3 := Lib.hid hm
    have HK3 := Lib.hid (HK2.out.then_ hk (fun k hk => .inr (by omega)))
    clear hk hm hF
    go_upto_region 6 with (refine wpList_store_row rfl 32 (.tmp 14) (.tmp 53) rfl w3.heap.size (startL (stackC f p la lb 0) (ofC (at1 f la lb) (32 * la.length) 9) (ofC (at2 f la lb) (32 * lb.length) 9) (ofC (at3 f la lb) 0 9)).toArray rfl rfl 32 _ (blk_new w3 _) (by kernel_rfl) rfl (oneStart _ _ _ _) ?_)
    have hkA := ((Kept.refl Non w3).alloc (.cells #[.int .u64 0, .int .u64 0, .int .u64 0, .int .i64 0, .int .i64 0, .bool false, .int .u64 0, .int .u64 0, .int .u64 0, .int .i64 0, .int .i64 0, .bool false, .int .u64 0, .int .u64 0, .int .u64 0, .int .i64 0, .int .i64 0, .bool false, .int .u64 0, .int .u64 0, .int .u64 0, .int .i64 0, .int .i64 0, .bool false] 32)).setRow (g := w3.heap.size) (.inr (Nat.le_refl _)) (startL (stackC f p la lb 0) (ofC (at1 f la lb) (32 * la.length) 9) (ofC (at2 f la lb) (32 * lb.length) 9) (ofC (at3 f la lb) 0 9)).toArray
    have hbk := setRow_heap (w3.alloc (.cells #[.int .u64 0, .int .u64 0, .int .u64 0, .int .i64 0, .int .i64 0, .bool false, .int .u64 0, .int .u64 0, .int .u64 0, .int .i64 0, .int .i64 0, .bool false, .int .u64 0, .int .u64 0, .int .u64 0, .int .i64 0, .int .i64 0, .bool false, .int .u64 0, .int .u64 0, .int .u64 0, .int .i64 0, .int .i64 0, .bool false] 32)) w3.heap.size _ (startL (stackC f p la lb 0) (ofC (at1 f la lb) (32 * la.length) 9) (ofC (at2 f la lb) (32 * lb.length) 9) (ofC (at3 f la lb) 0 9)).toArray 32 (0, 0) (blk_new w3 _)
    generalize (w3.alloc (.cells #[.int .u64 0, .int .u64 0, .int .u64 0, .int .i64 0, .int .i64 0, .bool false, .int .u64 0, .int .u64 0, .int .u64 0, .int .i64 0, .int .i64 0, .bool false, .int .u64 0, .int .u64 0, .int .u64 0, .int .i64 0, .int .i64 0, .bool false, .int .u64 0, .int .u64 0, .int .u64 0, .int .i64 0, .int .i64 0, .bool false] 32)).setRow w3.heap.size (startL (stackC f p la lb 0) (ofC (at1 f la lb) (32 * la.length) 9) (ofC (at2 f la lb) (32 * lb.length) 9) (ofC (at3 f la lb) 0 9)).toArray = w4 at hkA hbk ⊢
    have HBK := Lib.hid hbk
    have HKA := Lib.hid hkA
    have HK4 := Lib.hid (HK3.out.trans hkA)
    obtain ⟨_, ⟨s6, s7, s8, s9, s10, s11⟩, _, _⟩ := start_cells hbk
    clear hbk hkA
    simp only [ofC] at s6 s7 s8 s9 s10 s11
    go_wp2_with fail
    refine (told_any _ (at1 f la lb) (at1 f la lb + 32 * (la.length : Int)) (at1 f la lb) 9 (-1) _ la _ _ (HM3.out.kept0 HKA.out) (HA.out.kept0 HK4.out) (by omega) T1.out rfl).mono ?_
    rintro e w5 ⟨rfl, hk⟩
    obtain ⟨_, _, ⟨q0, q1, q2, q3, q4, q5⟩, _⟩ := start_cells (hk.blk HBK.out (fun h => h))
    have HBK5 := Lib.hid (hk.blk HBK.out (fun h => h))
    have HK5 := Lib.hid (HKA.out.trans hk)
    have HKW5 := Lib.hid (HK4.out.trans hk)
    clear hk s6 s7 s8 s9 s10 s11
    simp only [ofC] at q0 q1 q2 q3 q4 q5
    go_wp2_with fail
    refine (told_any _ (at2 f la lb) (at2 f la lb + 32 * (lb.length : Int)) (at2 f la lb) 9 (-1) _ lb _ _ (HM3.out.kept0 HK5.out) (HB.out.kept0 HKW5.out) (by omega) T2.out rfl).mono ?_
    rintro e w6 ⟨rfl, hk⟩
    obtain ⟨_, _, _, ⟨r0, r1, r2, r3, r4, r5⟩⟩ := start_cells (hk.blk HBK5.out (fun h => h))
    have HK6 := Lib.hid (HK5.out.trans hk)
    have HKW6 := Lib.hid (HKW5.out.trans hk)
    clear hk q0 q1 q2 q3 q4 q5
    simp only [ofC] at r0 r1 r2 r3 r4 r5
    go_wp2_with fail
    refine (told_any (G := fun _ => False) _ (at3 f la lb) (at3 f la lb) (at3 f la lb) 9 (-1) _ [] _ _ (HM3.out.kept0 HK6.out) (SeqAt.nil _ _ _ _) (by simp) T3.out (by simp)).mono ?_
    rintro e w7 ⟨rfl, hk⟩
    have HKW7 := Lib.hid (HKW6.out.trans hk)
    clear hk r0 r1 r2 r3 r4 r5
    go_wp2_with fail
    go_ret
    exact ⟨rfl, HKW7.out⟩
  · have hne : (buildE (PM.new budget) f p la lb [] != 0) = true := by simpa using hE
    rw [buildV_1 hE] at hbl
    have HBL := Lib.hid hbl
    clear ha hb hsa hsb hbud hE hbl
    generalize buildE (PM.new budget) f p la lb [] = E at HBL hne
    go_enter Try.func3, Try.ntmps3
    go_wp2_with (first
      | (go_at_call 15; refine H0.out.mono ?_; rintro e w1 ⟨rfl, hk⟩; have HK1 := Lib.hid hk; clear hk)
      | (go_at_call 16; refine (hnw _).mono ?_; rintro e w2 ⟨rfl, hm, hk⟩; have HK2 := Lib.hid (HK1.out.trans hk); have HM2 := Lib.hid hm; clear hk hm))
    have hsz1 := HK1.out.size
    refine (HBL.out _ _ _ HK2.out HM2.out (fun k hk hf => by omega)).mono ?_
    rintro e w3 ⟨rfl, F3, hm, hk, hF⟩
    have HK3 := Lib.hid (HK2.out.then_ hk (fun k hk => .inr (by omega)))
    clear hk hm hF
    go_wp2_with (refine wpList_store_row rfl 32 (.tmp 14) (.tmp 53) rfl w3.heap.size (startL _ _ _ _).toArray rfl rfl 32 _ (blk_new w3 _) (by kernel_rfl) rfl (oneStart _ _ _ _) ?_)
    go_ret
    exact ⟨rfl, (HK3.out.alloc _).setRow (.inr (by have := HK3.out.size; omega)) _⟩

end Go.Proofs.Ytkmbmbpjppjdjaa
