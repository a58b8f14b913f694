/- Walks: the law 'AbiRoom'. -/
import Derived.Test.YtkmbmbpjppjdjaaRight19
namespace Go.Proofs.Ytkmbmbpjppjdjaa
open Go.RowKit Go.Maps TmP
set_option linter.unusedSimpArgs false
set_option linter.unusedVariables false
set_option maxRecDepth 100000

theorem new_mapE (b f p : Int) (h1 : 1 ≤ p) (h2 : p ≤ b) (h3 : 0 ≤ f) (h4 : f + p ≤ 65536) : (PM.new b).mapE f p = 0 := by
  have hs : someB f p = true := by simp only [someB, decide_eq_true_eq]; omega
  have ha : allB (PM.new b).keys f p.toNat false = true := allB_iff.2 (fun j _ => by simp [PM.new])
  exact mapE_0 hs ha (by simp only [PM.new, List.length_nil]; omega)

theorem buildV_0 {M : PM} {f p : Int} {la lb : List ByteArray} {lc : List Cap} (h : buildE M f p la lb lc = 0) :
    buildV M f p la lb lc = startV (stackC f p la lb lc.length) (ofC (at1 f la lb) (32 * la.length) 9) (ofC (at2 f la lb) (32 * lb.length) 9) (ofC (at3 f la lb) (32 * lc.length) 9) := by
  unfold buildV; rw [if_pos h]
theorem buildV_1 {M : PM} {f p : Int} {la lb : List ByteArray} {lc : List Cap} (h : buildE M f p la lb lc ≠ 0) : buildV M f p la lb lc = startV zc zc zc zc := by
  unfold buildV; rw [if_neg h]

theorem room_any (va vb : Value) (la lb : List ByteArray) (more : Int) (w : World)
    (ha : SeqAt strE 1 w va la (fun k => k < w.heap.size)) (hb : SeqAt strE 1 w vb lb (fun k => k < w.heap.size)) (sa : Slc va) (sb : Slc vb)
    (hsa : ∀ x ∈ la, x.size ≤ 140737488355328) (hsb : ∀ x ∈ lb, x.size ≤ 140737488355328)
    (hna : la.length ≤ 1152921504606846976) (hnb : lb.length ≤ 1152921504606846976) :
    Calls Try.prog 4 #[va, vb, .int .i64 more] w fun e w' => e = .returned (.bool true) ∧ Kept Non w w' := by
  have h0 := awake_any w
  have h1 := fun w' (hk : Kept Non w w') => refright0_any va vb la lb w' (ha.kept0 hk) (hb.kept0 hk) hna hnb hsa hsb
  have H0 := Lib.hid h0
  have hok : ∀ (b : Bool), (if b then true else true) = true := fun b => by cases b <;> rfl
  by_cases hR : rightB la lb [] = true
  · obtain ⟨hla, hlb, _, hta, htb, _⟩ := rightB_few hR
    have hza := sizeL_le la hta
    have hzb := sizeL_le lb htb
    have hya := sizeL_nonneg la
    have hyb := sizeL_nonneg lb
    rw [hR] at h1
    have H1 := Lib.hid h1
    by_cases g1 : more < 0
    · clear ha hb h1 h0 hR hsa hsb hta htb
      have hd : decide (more < 0) = true := by simpa using g1
      go_enter Try.func4, Try.ntmps4
      go_wp2_with (first
        | (go_at_call 15; refine H0.out.mono ?_; rintro e w1 ⟨rfl, hk⟩; have HK1 := Lib.hid hk; clear hk)
        | (go_at_call 19; refine (H1.out _ HK1.out).mono ?_; rintro e w2 ⟨rfl, rfl⟩))
      go_ret
      exact ⟨rfl, HK1.out⟩
    by_cases g2 : 50 < more
    · clear ha hb h1 h0 hR hsa hsb hta htb
      have hd : decide (more < 0) = false := by simpa using g1
      have hd2 : decide (50 < more) = true := by simpa using g2
      go_enter Try.func4, Try.ntmps4
      go_wp2_with (first
        | (go_at_call 15; refine H0.out.mono ?_; rintro e w1 ⟨rfl, hk⟩; have HK1 := Lib.hid hk; clear hk)
        | (go_at_call 19; refine (H1.out _ HK1.out).mono ?_; rintro e w2 ⟨rfl, rfl⟩))
      go_ret
      exact ⟨rfl, HK1.out⟩
    have hd : decide (more < 0) = false := by simpa using g1
    have hd2 : decide (50 < more) = false := by simpa using g2
    have h2 := fun w' (hk : Kept Non w w') => need_any va vb (.slice none 0 0) la lb 0 w' (ha.kept0 hk) (hb.kept0 hk) sa sb (by omega) (by omega) (by omega) (by rw [sizeL_append]; omega) ⟨_, _, rfl⟩
    have hN0 : 0 ≤ needN la lb 0 := by unfold needN upZ; rw [sizeL_append]; omega
    have hN1 : needN la lb 0 ≤ 4600 := by unfold needN upZ; rw [sizeL_append]; omega
    have he1 : buildE (PM.new 200) 9 ((needN la lb 0 + 64 + 255) / 256 + more) la lb [] = 0 := by
      unfold buildE
      rw [if_neg (by rw [hR]; simp), if_neg (by simp only [List.length_nil]; omega)]
      exact new_mapE _ _ _ (by omega) (by omega) (by omega) (by omega)
    have he2 : buildE (PM.new 200) 9 ((needN la lb 0 + 64 + 255) / 256 - 1) la lb [] = 190 := by
      unfold buildE
      rw [if_neg (by rw [hR]; simp), if_pos (by simp only [List.length_nil]; omega)]
    have hb1 := fun w' m F (hk : Kept Non w w') (hm : MemAt w' m (PM.new 200) F) (hF : ∀ k, k < w.heap.size → ¬ F k) => build_any (Gc := fun _ => False) m 9 ((needN la lb 0 + 64 + 255) / 256 + more) va vb (.slice none 0 0) la lb [] w' hm (ha.kept0 hk) (hb.kept0 hk) (SeqAt.nil _ _ _ _) sa sb (.inl rfl) hF hF (fun _ h => h.elim) hna hnb (by simp) hsa hsb (by simp) (by omega) (by omega) (by omega) (by omega)
    have hb2 := fun w' m F (hk : Kept Non w w') (hm : MemAt w' m (PM.new 200) F) (hF : ∀ k, k < w.heap.size → ¬ F k) => build_any (Gc := fun _ => False) m 9 ((needN la lb 0 + 64 + 255) / 256 - 1) va vb (.slice none 0 0) la lb [] w' hm (ha.kept0 hk) (hb.kept0 hk) (SeqAt.nil _ _ _ _) sa sb (.inl rfl) hF hF (fun _ h => h.elim) hna hnb (by simp) hsa hsb (by simp) (by omega) (by omega) (by omega) (by omega)
    rw [he1, buildV_0 he1] at hb1
    rw [he2, buildV_1 (by rw [he2]; decide)] at hb2
    have H2 := Lib.hid h2
    have HB1 := Lib.hid hb1
    have HB2 := Lib.hid hb2
    clear ha hb h1 h0 hR hsa hsb hta htb h2 he1 he2 hb1 hb2
    generalize needN la lb 0 = N at H2 HB1 HB2 hN0 hN1
    have hd3 : decide (200 < (N + 64 + 255) / 256 + more) = false := by simp; omega
    go_enter Try.func4, Try.ntmps4
    go_wp2_with (first
      | (go_at_call 15; refine H0.out.mono ?_; rintro e w1 ⟨rfl, hk⟩; have HK1 := Lib.hid hk; clear hk)
      | (go_at_call 19; refine (H1.out _ HK1.out).mono ?_; rintro e w2 ⟨rfl, rfl⟩)
      | (go_at_call 20; refine (H2.out _ HK1.out).mono ?_; rintro e w2 ⟨rfl, hk⟩; have HK2 := Lib.hid (HK1.out.trans hk); clear hk))
    refine (new_ok w2 200 (by omega) (by omega)).mono ?_
    rintro e w3 ⟨rfl, hm, hk⟩
    have HM3 := Lib.hid hm
    have HK3 := Lib.hid hk
    have HKW3 := Lib.hid (HK2.out.trans hk)
    have hsz2 := HK2.out.size
    have hsz3 : w2.heap.size + 1 < w3.heap.size := hm.lt _ (.inr rfl)
    clear hk hm
    go_wp2_with fail
    refine (new_ok w3 200 (by omega) (by omega)).mono ?_
    rintro e w4 ⟨rfl, hm, hk⟩
    have HM4 := Lib.hid hm
    have HM3b := Lib.hid (HM3.out.kept0 hk)
    have HKW4 := Lib.hid (HKW3.out.trans hk)
    have hsz4 : w3.heap.size + 1 < w4.heap.size := hm.lt _ (.inr rfl)
    clear hk hm
    go_wp2_with fail
    refine (HB1.out w4 _ _ HKW4.out (HM3b.out) (fun k hk hf => by omega)).mono ?_
    rintro e w5 ⟨rfl, F5, hm, hk, hF⟩
    have HM5 := Lib.hid (HM4.out.kept hk (fun x hx hf => by omega))
    have HKW5 := Lib.hid (HKW4.out.then_ hk (fun k hk => .inr (by omega)))
    clear hk hm hF
    go_wp2_with (refine wpList_store_row rfl 32 (.tmp 15) (.tmp 78) rfl w5.heap.size (startL _ _ _ _).toArray rfl rfl 32 _ (blk_new w5 _) (by kernel_rfl) rfl (oneStart _ _ _ _) ?_)
    have hk6 := fun (cs : Array Value) (S : List Value) => ((Kept.refl Non w5).alloc (.cells cs 32)).setRow (g := w5.heap.size) (.inr (Nat.le_refl _)) S.toArray
    have HK6 := Lib.hid hk6
    clear hk6
    refine (HB2.out _ _ _ (HKW5.out.trans (HK6.out _ _)) (HM5.out.kept0 (HK6.out _ _)) (fun k hk hf => by omega)).mono ?_
    rintro e w7 ⟨rfl, F7, hm, hk, hF⟩
    have HKW7 := Lib.hid ((HKW5.out.trans (HK6.out _ _)).then_ hk (fun k hk => .inr (by omega)))
    clear hk hm hF
    go_wp2_with (refine wpList_store_row rfl 32 (.tmp 17) (.tmp 87) rfl w7.heap.size (startL _ _ _ _).toArray rfl rfl 32 _ (blk_new w7 _) (by kernel_rfl) rfl (oneStart _ _ _ _) ?_)
    go_ret
    exact ⟨rfl, (HKW7.out.alloc _).setRow (.inr (by have := HKW7.out.size; omega)) _⟩
  · have hR : rightB la lb [] = false := by simpa using hR
    rw [hR] at h1
    have H1 := Lib.hid h1
    clear ha hb h1 h0 hR hsa hsb
    go_enter Try.func4, Try.ntmps4
    go_wp2_with (first
      | (go_at_call 15; refine H0.out.mono ?_; rintro e w1 ⟨rfl, hk⟩; have HK1 := Lib.hid hk; clear hk)
      | (go_at_call 19; refine (H1.out _ HK1.out).mono ?_; rintro e w2 ⟨rfl, rfl⟩))
    go_ret
    exact ⟨rfl, HK1.out⟩

end Go.Proofs.Ytkmbmbpjppjdjaa
