/- Walks: the law 'AbiNeeds'. -/
import Derived.Test.YtkmbmbpjppjdjaaAwk
namespace Go.Proofs.Ytkmbmbpjppjdjaa
open Go.RowKit Go.Maps TmP
set_option linter.unusedSimpArgs false
set_option linter.unusedVariables false
set_option maxRecDepth 100000

theorem need_mod (la lb : List ByteArray) (n : Nat) : needN la lb n % 32 = 0 := by unfold needN upZ; omega
theorem need_left (la lb : List ByteArray) (s : ByteArray) (n : Nat) : needN la lb n + 32 ≤ needN (la ++ [s]) lb n ∧ needN (la ++ [s]) lb n ≤ needN la lb n + 32 + s.size + 32 := by
  unfold needN upZ
  simp only [sizeL_append, sizeL_cons, sizeL_nil, List.length_append, List.length_cons, List.length_nil]
  constructor <;> omega
theorem need_both (la lb : List ByteArray) (s : ByteArray) (n : Nat) : needN la (lb ++ [s]) n = needN (la ++ [s]) lb n := by
  unfold needN upZ
  simp only [sizeL_append, sizeL_cons, sizeL_nil, List.length_append, List.length_cons, List.length_nil]
  congr 2 <;> omega
theorem sizeL_big : ∀ (l : List ByteArray), (∀ x ∈ l, x.size ≤ 140737488355328) → sizeL l ≤ 140737488355329 * l.length
  | [], _ => by simp [sizeL_nil]
  | s :: r, h => by
    have h1 := h s (by simp)
    have h2 := sizeL_big r (fun x hx => h x (by simp [hx]))
    rw [sizeL_cons, List.length_cons]
    omega

theorem needs_any {Ga Gb : Nat → Prop} (va vb vc : Value) (la lb : List ByteArray) (n : Nat) (s : ByteArray) (w : World)
    (ha : SeqAt strE 1 w va la Ga) (hb : SeqAt strE 1 w vb lb Gb) (sa : Slc va) (sb : Slc vb) (hc : ∃ ao c, vc = .slice ao n c)
    (hsa : ∀ x ∈ la, x.size ≤ 140737488355328) (hsb : ∀ x ∈ lb, x.size ≤ 140737488355328) (hs : s.size ≤ 140737488355328)
    (hna : la.length ≤ 1152921504606846976) (hnb : lb.length ≤ 1152921504606846976) (hnc : n ≤ 1152921504606846976) :
    Calls Try.prog 5 #[va, vb, vc, .string s] w fun e w' => e = .returned (.bool true) ∧ Kept Non w w' := by
  have ea : ∃ ao ca, va = .slice ao la.length ca := by obtain ⟨ao, ca, h, _⟩ := ha; exact ⟨ao, ca, h⟩
  have eb : ∃ ao ca, vb = .slice ao lb.length ca := by obtain ⟨ao, ca, h, _⟩ := hb; exact ⟨ao, ca, h⟩
  have HA := Lib.hid ha
  have HB := Lib.hid hb
  have HSA := Lib.hid sa
  have HSB := Lib.hid sb
  have HSZA := Lib.hid hsa
  have HSZB := Lib.hid hsb
  clear ha hb sa sb hsa hsb
  obtain ⟨aa, ca, rfl⟩ := ea
  obtain ⟨ab, cb, rfl⟩ := eb
  obtain ⟨ac, cc, rfl⟩ := hc
  by_cases g1 : (s.size : Int) ≤ 200
  · by_cases g2 : (la.length : Int) ≤ 100
    · by_cases g3 : (lb.length : Int) ≤ 100
      · by_cases g4 : (n : Int) ≤ 100
        · have hza := sizeL_big la HSZA.out
          have hzb := sizeL_big lb HSZB.out
          have hyb := sizeL_nonneg lb
          have hya := sizeL_nonneg la
          have h1 := fun w' (hk : Kept Non w w') => need_any _ _ (.slice ac n cc) la lb n w' (HA.out.kept0 hk) (HB.out.kept0 hk) HSA.out HSB.out (by omega) (by omega) (by omega) (by rw [sizeL_append]; omega) ⟨_, _, rfl⟩
          have h2 := fun w' v (hk : Kept Non w w') (G : Nat → Prop) (hq : SeqAt strE 1 w' v (la ++ [s]) G) (hs : Slc v) => need_any v _ (.slice ac n cc) (la ++ [s]) lb n w' hq (HB.out.kept0 hk) hs HSB.out (by simp; omega) (by omega) (by omega) (by simp only [sizeL_append, sizeL_cons, sizeL_nil]; omega) ⟨_, _, rfl⟩
          have h3 := fun w' v (hk : Kept Non w w') (G : Nat → Prop) (hq : SeqAt strE 1 w' v (lb ++ [s]) G) (hs : Slc v) => need_any _ v (.slice ac n cc) la (lb ++ [s]) n w' (HA.out.kept0 hk) hq HSA.out hs (by omega) (by simp; omega) (by omega) (by simp only [sizeL_append, sizeL_cons, sizeL_nil]; omega) ⟨_, _, rfl⟩
          rw [need_both] at h3
          have hm := need_mod la lb n
          obtain ⟨hl1, hl2⟩ := need_left la lb s n
          have hN0 : 0 ≤ needN la lb n := by unfold needN upZ; rw [sizeL_append]; omega
          have hN1 : needN la lb n ≤ 1152921504606846976 := by unfold needN upZ; rw [sizeL_append]; omega
          have H1 := Lib.hid h1
          have H2 := Lib.hid h2
          have H3 := Lib.hid h3
          have H0 := Lib.hid (awake_any w)
          obtain ⟨i0, hi, hz0, hz1, hz2⟩ := info_parts infoStr
          clear h1 h2 h3
          generalize needN la lb n = N at H1 hm hl1 hl2 hN0 hN1
          generalize needN (la ++ [s]) lb n = N1 at H2 H3 hl1 hl2
          have hd1 : decide (200 < (s.size : Int)) = false := by simp; omega
          have hd2 : decide (100 < (la.length : Int)) = false := by simp; omega
          have hd3 : decide (100 < (lb.length : Int)) = false := by simp; omega
          have hd4 : decide (100 < (n : Int)) = false := by simp; omega
          go_enter Try.func5, Try.ntmps5
          go_wp2_with (go_at_call 15; refine H0.out.mono ?_; rintro e w1 ⟨rfl, hk⟩; have HK1 := Lib.hid hk; clear hk)
          refine (H1.out _ HK1.out).mono ?_
          rintro e w2 ⟨rfl, hk⟩
          have HK2 := Lib.hid (HK1.out.trans hk)
          clear hk
          have ho0 : (w2.alloc (.cells #[] 9)).ownsRow w2.heap.size 9 1 (.slice (some ⟨w2.heap.size, 0, none⟩) 0 0) 0 [] := ⟨rfl, .inr ⟨w2.heap.size, 0, #[], rfl, Nat.le_refl _, blk_new w2 _, Nat.le_refl _, Nat.zero_le _, rfl, rfl⟩⟩
          have HO2 := Lib.hid ho0
          clear ho0
          go_wp2_with (first
            | (at_builtin; refine wpList_cat w2 (w2.alloc (.cells #[] 9)) Non Ga ((Kept.refl Non w2).alloc _) rfl (.tmp 37) (.tmp 38) 23 rfl 9 _ _ 1 16 Try.underlying23 hi hz0 hz1 hz2 rfl (by omega) _ 0 [] HO2.out rfl _ la rfl (HA.out.kept0 (HK2.out.alloc _)) HSA.out (fun _ _ => rfl) (fun x _ u hu => by simp [strE] at hu; subst hu; rfl) (by unfold maxLen; omega) (by omega) ?_; intro v2a w2a ho hk; have HO2a := Lib.hid ho; have HK2a := Lib.hid hk; clear ho hk)
            | (at_builtin; refine wpList_push w2 w2a #[.string s] Non HK2a.out rfl (.tmp 39) (.tmp 41) 23 rfl 9 _ _ 1 16 Try.underlying23 hi hz0 hz1 hz2 rfl (by omega) v2a (0 + la.length) _ HO2a.out rfl rfl rfl (fun u hu => by simp at hu; subst hu; rfl) (by unfold maxLen; omega) (by omega) ?_; intro v2b w2b ho hk _; have HO2b := Lib.hid ho; have HK2b := Lib.hid (HK2.out.trans hk); clear ho hk))
          have hq2 : SeqAt strE 1 w2b v2b (la ++ [s]) (fun k => w2.heap.size ≤ k) := seq_of_own (l := la ++ [s]) (by have := HO2b.out; simpa [strE] using this) rfl (fun _ _ => rfl)
          refine (H2.out _ v2b HK2b.out _ hq2 (slc_own HO2b.out)).mono ?_
          rintro e w3 ⟨rfl, hk⟩
          have HK3 := Lib.hid (HK2b.out.trans hk)
          clear hk hq2
          have ho0 : (w3.alloc (.cells #[] 9)).ownsRow w3.heap.size 9 1 (.slice (some ⟨w3.heap.size, 0, none⟩) 0 0) 0 [] := ⟨rfl, .inr ⟨w3.heap.size, 0, #[], rfl, Nat.le_refl _, blk_new w3 _, Nat.le_refl _, Nat.zero_le _, rfl, rfl⟩⟩
          have HO3 := Lib.hid ho0
          clear ho0
          go_wp2_with (first
            | (at_builtin; refine wpList_cat w3 (w3.alloc (.cells #[] 9)) Non Gb ((Kept.refl Non w3).alloc _) rfl (.tmp 47) (.tmp 48) 23 rfl 9 _ _ 1 16 Try.underlying23 hi hz0 hz1 hz2 rfl (by omega) _ 0 [] HO3.out rfl _ lb rfl (HB.out.kept0 (HK3.out.alloc _)) HSB.out (fun _ _ => rfl) (fun x _ u hu => by simp [strE] at hu; subst hu; rfl) (by unfold maxLen; omega) (by omega) ?_; intro v3a w3a ho hk; have HO3a := Lib.hid ho; have HK3a := Lib.hid hk; clear ho hk)
            | (at_builtin; refine wpList_push w3 w3a #[.string s] Non HK3a.out rfl (.tmp 49) (.tmp 51) 23 rfl 9 _ _ 1 16 Try.underlying23 hi hz0 hz1 hz2 rfl (by omega) v3a (0 + lb.length) _ HO3a.out rfl rfl rfl (fun u hu => by simp at hu; subst hu; rfl) (by unfold maxLen; omega) (by omega) ?_; intro v3b w3b ho hk _; have HO3b := Lib.hid ho; have HK3b := Lib.hid (HK3.out.trans hk); clear ho hk))
          have hq3 : SeqAt strE 1 w3b v3b (lb ++ [s]) (fun k => w3.heap.size ≤ k) := seq_of_own (l := lb ++ [s]) (by have := HO3b.out; simpa [strE] using this) rfl (fun _ _ => rfl)
          refine (H3.out _ v3b HK3b.out _ hq3 (slc_own HO3b.out)).mono ?_
          rintro e w4 ⟨rfl, hk⟩
          have HK4 := Lib.hid (HK3b.out.trans hk)
          clear hk hq3
          go_wp2_with fail
          go_ret
          exact ⟨rfl, HK4.out⟩
        · have hd1 : decide (200 < (s.size : Int)) = false := by simp; omega
          have hd2 : decide (100 < (la.length : Int)) = false := by simp; omega
          have hd3 : decide (100 < (lb.length : Int)) = false := by simp; omega
          have hd4 : decide (100 < (n : Int)) = true := by simp; omega
          have H0 := Lib.hid (awake_any w)
          go_enter Try.func5, Try.ntmps5
          go_wp2_with (go_at_call 15; refine H0.out.mono ?_; rintro e w1 ⟨rfl, hk⟩; have HK1 := Lib.hid hk; clear hk)
          go_ret
          exact ⟨rfl, HK1.out⟩
      · have hd1 : decide (200 < (s.size : Int)) = false := by simp; omega
        have hd2 : decide (100 < (la.length : Int)) = false := by simp; omega
        have hd3 : decide (100 < (lb.length : Int)) = true := by simp; omega
        have H0 := Lib.hid (awake_any w)
        go_enter Try.func5, Try.ntmps5
        go_wp2_with (go_at_call 15; refine H0.out.mono ?_; rintro e w1 ⟨rfl, hk⟩; have HK1 := Lib.hid hk; clear hk)
        go_ret
        exact ⟨rfl, HK1.out⟩
    · have hd1 : decide (200 < (s.size : Int)) = false := by simp; omega
      have hd2 : decide (100 < (la.length : Int)) = true := by simp; omega
      have H0 := Lib.hid (awake_any w)
      go_enter Try.func5, Try.ntmps5
      go_wp2_with (go_at_call 15; refine H0.out.mono ?_; rintro e w1 ⟨rfl, hk⟩; have HK1 := Lib.hid hk; clear hk)
      go_ret
      exact ⟨rfl, HK1.out⟩
  · have hd1 : decide (200 < (s.size : Int)) = true := by simp; omega
    have H0 := Lib.hid (awake_any w)
    go_enter Try.func5, Try.ntmps5
    go_wp2_with (go_at_call 15; refine H0.out.mono ?_; rintro e w1 ⟨rfl, hk⟩; have HK1 := Lib.hid hk; clear hk)
    go_ret
    exact ⟨rfl, HK1.out⟩

end Go.Proofs.Ytkmbmbpjppjdjaa
