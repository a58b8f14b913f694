/- Walks: what a program begins with is built, or why not; two lists of bytes are compared. -/
import Derived.Test.YtkmbmbpjppjdjaaAbi8
import Derived.BigQuiet
import Derived.Deep.QuietTactic
namespace Go.Proofs.Ytkmbmbpjppjdjaa
open Go.RowKit Go.Maps TmP
set_option linter.unusedSimpArgs false
set_option linter.unusedVariables false
set_option maxRecDepth 100000

namespace TmP
def PM.buildM (M : PM) (f p : Int) (la lb : List ByteArray) (lc : List Cap) : PM := if buildE M f p la lb lc = 0 then M.built f p la lb lc else M
end TmP
def buildV (M : PM) (f p : Int) (la lb : List ByteArray) (lc : List Cap) : Value :=
  if buildE M f p la lb lc = 0 then startV (stackC f p la lb lc.length) (ofC (at1 f la lb) (32 * la.length) 9) (ofC (at2 f la lb) (32 * lb.length) 9) (ofC (at3 f la lb) (32 * lc.length) 9) else startV zc zc zc zc

theorem build_any {Ga Gb Gc : Nat → Prop} {F : Nat → Prop} {M : PM} (m : Nat) (f p : Int) (va vb vc : Value) (la lb : List ByteArray) (lc : List Cap) (w : World) (h : MemAt w m M F)
    (ha : SeqAt strE 1 w va la Ga) (hb : SeqAt strE 1 w vb lb Gb) (hc : SeqAt capE 6 w vc lc Gc) (sa : Slc va) (sb : Slc vb) (sc : Slc vc)
    (hGa : ∀ k, Ga k → ¬ F k) (hGb : ∀ k, Gb k → ¬ F k) (hGc : ∀ k, Gc k → ¬ F k)
    (hna : la.length ≤ 1152921504606846976) (hnb : lb.length ≤ 1152921504606846976) (hnc : lc.length ≤ 1152921504606846976)
    (hsa : ∀ x ∈ la, x.size ≤ 140737488355328) (hsb : ∀ x ∈ lb, x.size ≤ 140737488355328) (hU : ∀ c ∈ lc, Cap.U c) (hf0 : 0 ≤ f) (hf1 : f < 18446744073709551616) (hp0 : -1000 ≤ p) (hp1 : p ≤ 1000) :
    Calls Try.prog 17 #[.pointer (some ⟨m, 0, none⟩), .int .u64 f, .int .i64 p, va, vb, vc] w (Does w m F (.tuple #[buildV M f p la lb lc, .int .i64 (buildE M f p la lb lc)]) (M.buildM f p la lb lc)) := by
  by_cases hR : rightB la lb lc = true
  · by_cases hN : needN la lb lc.length > p * 256 - 64
    · have e : buildE M f p la lb lc = 190 := by simp [buildE, hR, hN]
      simp only [buildV, PM.buildM, e]
      exact (build_bad2 _ f p va vb vc la lb lc w ha hb hc sa sb hsa hsb hp0 hp1 hR hN).mono (fun e w' ⟨he, hk⟩ => Does.same h he hk)
    · have e : buildE M f p la lb lc = M.mapE f p := by simp [buildE, hR, hN]
      simp only [buildV, PM.buildM, e]
      by_cases hE : M.mapE f p = 0
      · rw [if_pos hE, if_pos hE, hE]
        exact build_ok m f p va vb vc la lb lc w h ha hb hc sa sb sc hGa hGb hGc hsa hsb hU hf0 hf1 hp0 hp1 hR hN hE
      · rw [if_neg hE, if_neg hE]
        exact build_bad3 m f p va vb vc la lb lc w h ha hb hc sa sb hsa hsb hf0 hf1 hp0 hp1 hR hN hE
  · have hR : rightB la lb lc = false := by simpa using hR
    have e : buildE M f p la lb lc = 1 := by simp [buildE, hR]
    simp only [buildV, PM.buildM, e]
    exact (build_bad1 _ f p va vb vc la lb lc w ha hb hc hna hnb hnc hsa hsb hR).mono (fun e w' ⟨he, hk⟩ => Does.same h he hk)

/-- 'curtilageref01.Same'. -/
theorem sameb_any {Ga Gb : Nat → Prop} (va vb : Value) (la lb : List Int) (w : World) (ha : SeqAt (fun b => [Value.int .u8 b]) 1 w va la Ga) (hb : SeqAt (fun b => [Value.int .u8 b]) 1 w vb lb Gb) (hn : la.length ≤ 1152921504606846976) :
    Calls Try.prog 37 #[va, vb] w fun e w' => e = .returned (.bool (decide (la = lb))) ∧ Kept Non w w' := by
  obtain ⟨aa, ca, rfl, _, qa⟩ := ha
  obtain ⟨ab, cb, rfl, _, qb⟩ := hb
  have QA := Lib.hid qa
  have QB := Lib.hid qb
  clear qa qb
  by_cases hl : la.length = lb.length
  · have hd : ((la.length : Int) != (lb.length : Int)) = false := by simp; omega
    have HL := Lib.hid hl
    clear hl
    go_enter Try.func37, Try.ntmps37
    go_wp2
    go_loopw [5] (fun i wr => ∃ k : Nat, k ≤ la.length ∧ i = .int .i64 k ∧ la.take k = lb.take k ∧ Kept Non w wr) (fun i _ => la.length - (intOf i).toNat)
    case atStart => exact ⟨0, Nat.zero_le _, rfl, by simp, Kept.refl _ _⟩
    case round =>
      obtain ⟨k, hk, rfl, ht, hK⟩ := hrel
      have HT := Lib.hid ht
      have HK := Lib.hid hK
      clear ht hK
      by_cases hlt : k < la.length
      · have hltb : k < lb.length := by have := HL.out; omega
        obtain ⟨ga, oa, rfl, ca⟩ : ∃ g off, aa = some ⟨g, off, none⟩ ∧ w.cell? ⟨g, off + k, none⟩ = some (.int .u8 la[k]) := by
          rcases QA.out with h | ⟨g, off, h1, _, _, h4⟩
          · subst h; simp at hlt
          · exact ⟨g, off, h1, by simpa using h4 k la[k] (List.getElem?_eq_getElem hlt) 0 _ rfl⟩
        obtain ⟨gb, ob, rfl, cb⟩ : ∃ g off, ab = some ⟨g, off, none⟩ ∧ w.cell? ⟨g, off + k, none⟩ = some (.int .u8 lb[k]) := by
          rcases QB.out with h | ⟨g, off, h1, _, _, h4⟩
          · subst h; simp at hltb
          · exact ⟨g, off, h1, by simpa using h4 k lb[k] (List.getElem?_eq_getElem hltb) 0 _ rfl⟩
        have cka := HK.out.cell ca (fun h => h)
        have ckb := HK.out.cell cb (fun h => h)
        have hta : la.take (k + 1) = la.take k ++ [la[k]] := List.take_succ_eq_append_getElem hlt
        have htb : lb.take (k + 1) = lb.take k ++ [lb[k]] := List.take_succ_eq_append_getElem hltb
        have HTA := Lib.hid hta
        have HTB := Lib.hid htb
        have hi0 : (0 : Int) ≤ k := by omega
        have hi1 : (k : Int) < la.length := by omega
        have hi2 : (k : Int) < lb.length := by omega
        clear ca cb hta htb
        generalize hxa : la[k] = xa at cka HTA
        generalize hxb : lb[k] = xb at ckb HTB
        have HXA := Lib.hid hxa
        have HXB := Lib.hid hxb
        clear hxa hxb
        by_cases hx : xa = xb
        · subst hx
          go_wp2_with fail
          go_quiet (fail)
          all_goals go_wp2
          all_goals exact ⟨⟨k + 1, by omega, by go_num, by rw [HTA.out, HTB.out, HT.out], HK.out.drewN _⟩, by simp [intOf]; omega⟩
        · have hne : (xa != xb) = true := by simpa using hx
          have HX := Lib.hid hx
          clear hx
          go_wp2_with fail
          go_quiet (fail)
          all_goals go_wp2
          all_goals go_ret
          all_goals exact ⟨ret_bool (by
            symm
            rw [decide_eq_false_iff_not]
            intro e
            refine HX.out ?_
            rw [← HXA.out, ← HXB.out]
            simp only [e]), HK.out.drewN _⟩
      · obtain rfl : k = la.length := by omega
        have he : la = lb := by
          have h1 := HT.out
          rw [List.take_length, HL.out, List.take_length] at h1
          exact h1
        have HE := Lib.hid he
        clear he
        go_wp2
        go_ret
        exact ⟨ret_bool (by symm; rw [decide_eq_true_eq]; exact HE.out), HK.out⟩
  · have hd : ((la.length : Int) != (lb.length : Int)) = true := by simp; omega
    have HL := Lib.hid hl
    clear hl
    go_enter Try.func37, Try.ntmps37
    go_wp2
    go_ret
    exact ⟨ret_bool (by symm; rw [decide_eq_false_iff_not]; intro e; exact HL.out (by rw [e])), Kept.refl _ _⟩

end Go.Proofs.Ytkmbmbpjppjdjaa
