/- Walks: may all that a program begins with be handed over; a capability of bytes. -/
import Derived.Test.YtkmbmbpjppjdjaaAbi3
namespace Go.Proofs.Ytkmbmbpjppjdjaa
open Go.RowKit Go.Maps TmP
set_option linter.unusedSimpArgs false
set_option linter.unusedVariables false
set_option maxRecDepth 100000

namespace TmP
def rightB (la lb : List ByteArray) (lc : List Cap) : Bool :=
  decide ((la.length : Int) ≤ 8) && decide ((lb.length : Int) ≤ 8) && decide ((lc.length : Int) ≤ 8) && !(la.any fun x => !textB x) && !(lb.any fun x => !textB x) && !(lc.any fun x => !safeB x)
end TmP

theorem right_any {Ga Gb Gc : Nat → Prop} (va vb vc : Value) (la lb : List ByteArray) (lc : List Cap) (w : World)
    (ha : SeqAt strE 1 w va la Ga) (hb : SeqAt strE 1 w vb lb Gb) (hc : SeqAt capE 6 w vc lc Gc)
    (hna : la.length ≤ 1152921504606846976) (hnb : lb.length ≤ 1152921504606846976) (hnc : lc.length ≤ 1152921504606846976)
    (hsa : ∀ x ∈ la, x.size ≤ 140737488355328) (hsb : ∀ x ∈ lb, x.size ≤ 140737488355328) :
    Calls Try.prog 44 #[va, vb, vc] w fun e w' => e = .returned (.bool (rightB la lb lc)) ∧ Kept Non w w' := by
  have h1 := fun w' (hk : Kept Non w w') => containsstr_any va la w' (ha.kept0 hk) hna hsa
  have h2 := fun w' (hk : Kept Non w w') => containsstr_any vb lb w' (hb.kept0 hk) hnb hsb
  have h3 := fun w' (hk : Kept Non w w') => containscap_any vc lc w' (hc.kept0 hk) hnc
  have ea : ∃ ao ca, va = .slice ao la.length ca := by obtain ⟨ao, ca, h, _⟩ := ha; exact ⟨ao, ca, h⟩
  have eb : ∃ ao ca, vb = .slice ao lb.length ca := by obtain ⟨ao, ca, h, _⟩ := hb; exact ⟨ao, ca, h⟩
  have ec : ∃ ao ca, vc = .slice ao lc.length ca := by obtain ⟨ao, ca, h, _⟩ := hc; exact ⟨ao, ca, h⟩
  obtain ⟨aa, ca, rfl⟩ := ea
  obtain ⟨ab, cb, rfl⟩ := eb
  obtain ⟨ac, cc, rfl⟩ := ec
  have hR : rightB la lb lc = (decide ((la.length : Int) ≤ 8) && decide ((lb.length : Int) ≤ 8) && decide ((lc.length : Int) ≤ 8) && !(la.any fun x => !textB x) && !(lb.any fun x => !textB x) && !(lc.any fun x => !safeB x)) := rfl
  generalize rightB la lb lc = R at hR ⊢
  generalize (la.any fun x => !textB x) = A at h1 hR
  generalize (lb.any fun x => !textB x) = B at h2 hR
  generalize (lc.any fun x => !safeB x) = C at h3 hR
  clear ha hb hc hsa hsb hna hnb hnc
  by_cases g1 : (la.length : Int) ≤ 8
  · have d1 : decide ((la.length : Int) ≤ 8) = true := decide_eq_true g1
    by_cases g2 : (lb.length : Int) ≤ 8
    · have d2 : decide ((lb.length : Int) ≤ 8) = true := decide_eq_true g2
      by_cases g3 : (lc.length : Int) ≤ 8
      · have d3 : decide ((lc.length : Int) ≤ 8) = true := decide_eq_true g3
        rw [d1, d2, d3] at hR
        cases A
        · cases B
          · simp only [Bool.not_false, Bool.and_self, Bool.true_and] at hR
            subst hR
            have H1 := Lib.hid h1
            have H2 := Lib.hid h2
            have H3 := Lib.hid h3
            clear h1 h2 h3
            go_enter Try.func44, Try.ntmps44
            go_wp2_with (first
              | (go_at_call 76; refine (H1.out _ (Kept.refl _ _)).mono ?_; rintro e w1 ⟨rfl, hk⟩; have HK := Lib.hid hk; clear hk H1)
              | (go_at_call 76; refine (H2.out _ HK.out).mono ?_; rintro e w2 ⟨rfl, hk⟩; have HK2 := Lib.hid (HK.out.trans hk); clear hk)
              | (go_at_call 77; refine (H3.out _ HK2.out).mono ?_; rintro e w3 ⟨rfl, hk⟩; have HK3 := Lib.hid (HK2.out.trans hk); clear hk))
            go_ret
            exact ⟨rfl, HK3.out⟩
          · simp only [Bool.not_true, Bool.and_false, Bool.false_and] at hR
            subst hR
            have H1 := Lib.hid h1
            have H2 := Lib.hid h2
            clear h1 h2 h3
            go_enter Try.func44, Try.ntmps44
            go_wp2_with (first
              | (go_at_call 76; refine (H1.out _ (Kept.refl _ _)).mono ?_; rintro e w1 ⟨rfl, hk⟩; have HK := Lib.hid hk; clear hk H1)
              | (go_at_call 76; refine (H2.out _ HK.out).mono ?_; rintro e w2 ⟨rfl, hk⟩; have HK2 := Lib.hid (HK.out.trans hk); clear hk))
            go_ret
            exact ⟨rfl, HK2.out⟩
        · simp only [Bool.not_true, Bool.and_false, Bool.false_and] at hR
          subst hR
          have H1 := Lib.hid h1
          clear h1 h2 h3
          go_enter Try.func44, Try.ntmps44
          go_wp2_with (first
            | (go_at_call 76; refine (H1.out _ (Kept.refl _ _)).mono ?_; rintro e w1 ⟨rfl, hk⟩; have HK := Lib.hid hk; clear hk H1))
          go_ret
          exact ⟨rfl, HK.out⟩
      · have d3 : decide ((lc.length : Int) ≤ 8) = false := decide_eq_false g3
        rw [d3] at hR
        simp only [Bool.and_false, Bool.false_and] at hR
        subst hR
        clear h1 h2 h3
        go_enter Try.func44, Try.ntmps44
        go_wp2
        go_ret
        exact ⟨rfl, Kept.refl _ _⟩
    · have d2 : decide ((lb.length : Int) ≤ 8) = false := decide_eq_false g2
      rw [d2] at hR
      simp only [Bool.and_false, Bool.false_and] at hR
      subst hR
      clear h1 h2 h3
      go_enter Try.func44, Try.ntmps44
      go_wp2
      go_ret
      exact ⟨rfl, Kept.refl _ _⟩
  · have d1 : decide ((la.length : Int) ≤ 8) = false := decide_eq_false g1
    rw [d1] at hR
    simp only [Bool.and_false, Bool.false_and] at hR
    subst hR
    clear h1 h2 h3
    go_enter Try.func44, Try.ntmps44
    go_wp2
    go_ret
    exact ⟨rfl, Kept.refl _ _⟩

namespace TmP
/-- A capability of bytes. -/
def ofC (a n p : Int) : Cap := ⟨a, a + n, a, p, -1, true⟩
end TmP

theorem of_any' (a n p : Int) (ha : 0 ≤ a) (hn : 0 ≤ n) (hs : a + n ≤ 16777216) (w : World) (hp : bits .and .i64 255 p = p) : Calls Try.prog 49 #[.int .u64 a, .int .u64 n, .int .i64 p] w fun e w' => e = .returned (capV (ofC a n p)) ∧ Kept Non w w' := by
  have h1 := fun w => caproot_any 16777216 w
  have h2 := fun w => capmove_any (Cap.root 16777216) a w
  have h3 := fun w => capbound_any ((Cap.root 16777216).move a) n ⟨⟨by simp [Cap.move, Cap.root, Cap.openC], by simp [Cap.move, Cap.root, Cap.openC]⟩, ⟨by simp [Cap.move, Cap.root, Cap.openC], by simp [Cap.move, Cap.root, Cap.openC]⟩, ⟨ha, by simp [Cap.move, Cap.root, Cap.openC]; omega⟩⟩ ⟨hn, by omega⟩ w
  have h4 := fun w => capand_any (((Cap.root 16777216).move a).bound n) p w
  have e1 : ((Cap.root 16777216).move a) = ⟨0, 16777216, a, 255, -1, true⟩ := rfl
  have e2 : Cap.bound ⟨0, 16777216, a, 255, -1, true⟩ n = ⟨a, a + n, a, 255, -1, true⟩ := by
    have : Cap.boundB ⟨0, 16777216, a, 255, -1, true⟩ n = true := by
      have hf : Cap.fits ⟨0, 16777216, a, 255, -1, true⟩ n = true := by simp only [Cap.fits, decide_eq_true_eq]; omega
      simp [Cap.boundB, hf, Cap.openC]
    simp only [Cap.bound, this, if_true]
  rw [e1] at h2 h3 h4
  rw [e2] at h3 h4
  simp only [hp] at h4
  simp only [capV, Cap.openC, ofC, Cap.root] at h1 h2 h3 h4 ⊢
  have H1 := Lib.hid h1
  have H2 := Lib.hid h2
  have H3 := Lib.hid h3
  have H4 := Lib.hid h4
  clear h1 h2 h3 h4 e1 e2
  go_enter Try.func49, Try.ntmps49
  go_wp2_with (first
    | (go_at_call 52; refine (H1.out _).mono ?_; rintro e w1 ⟨rfl, hk⟩; have HK := Lib.hid hk; clear hk)
    | (go_at_call 48; refine (H2.out _).mono ?_; rintro e w2 ⟨rfl, hk⟩; have HK2 := Lib.hid (HK.out.trans hk); clear hk)
    | (go_at_call 82; refine (H3.out _).mono ?_; rintro e w3 ⟨rfl, hk⟩; have HK3 := Lib.hid (HK2.out.trans hk); clear hk)
    | (go_at_call 81; refine (H4.out _).mono ?_; rintro e w4 ⟨rfl, hk⟩; obtain ⟨⟨d0, d1, d2, d3, d4, d5⟩, ⟨g0, g1, g2, g3, g4, g5⟩⟩ := box6 ((HK3.out.trans hk).blk (blk_new w _) (fun h => h)); have HK4 := Lib.hid (((Kept.refl Non w).alloc _).trans (HK3.out.trans hk)); clear hk))
  refine bodyPost_ret (v := capV (ofC a n p)) (by simp [results, Try.results49, go_sem, capV, ofC, d0, d1, d2, d3, d4, d5]) rfl ⟨rfl, ?_⟩
  repeat (refine Kept.setCell ?_ (.inr (by simp)) _)
  exact HK4.out

end Go.Proofs.Ytkmbmbpjppjdjaa
