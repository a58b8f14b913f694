/- Walks: 'Pages': which pages are mapped, rising. -/
import Derived.Test.YtkmbmbpjppjdjaaApp
import Derived.Test.YtkmbmbpjppjdjaaSortUB
import Derived.Maps.RangeWalk
namespace Go.Proofs.Ytkmbmbpjppjdjaa
open Go.RowKit Go.Maps TmP
set_option linter.unusedSimpArgs false
set_option linter.unusedVariables false
set_option maxRecDepth 100000

theorem ranges_blk {w w' : World} {k : TypeId} {R : Value → Option (DataW Unit × List MemPlace)} {b r n : Nat} {D : DataW Unit} {left : Lit → Bool} {cnt : Nat} (h : w.ranges Try.prog k R b r n D left cnt) (hb : w'.heap[b]? = w.heap[b]?) (hr : w'.heap[r]? = w.heap[r]?) : w'.ranges Try.prog k R b r n D left cnt := by
  obtain ⟨es, clock, since, seen, c0, h1, h2, h3, h4, h5, h6⟩ := h
  exact ⟨es, clock, since, seen, c0, hb.trans h1, h2, h3, h4, hr.trans h5, h6⟩

/-- What has been met so far of the keys. -/
def CollI (keys : List Int) (left : Lit → Bool) (ss : List Int) : Prop := ss.Nodup ∧ (∀ x, x ∈ ss ↔ (x ∈ keys ∧ left (.int .u64 x) = false))
theorem CollI.step {keys : List Int} {left : Lit → Bool} {ss : List Int} (h : CollI keys left ss) {x : Int} (hx : x ∈ keys) (hl : left (.int .u64 x) = true) : CollI keys (fun z => left z && !z.sameKey (.int .u64 x)) (ss ++ [x]) := by
  obtain ⟨h1, h2⟩ := h
  have hn : x ∉ ss := fun hm => by have := (h2 x).1 hm; rw [hl] at this; cases this.2
  refine ⟨List.nodup_append.2 ⟨h1, by simp, fun a ha b hb e => by simp at hb; subst hb; subst e; exact hn ha⟩, fun y => ?_⟩
  rw [List.mem_append, h2 y]
  simp only [List.mem_singleton, same_int]
  by_cases e : y = x
  · subst e; simp [hx]
  · simp [e]
theorem CollI.perm {keys ss : List Int} {left : Lit → Bool} (h : CollI keys left ss) (hk : keys.Pairwise (· < ·)) (hl : ∀ kl, left kl = false) : ss.Perm keys := by
  refine (List.perm_ext_iff_of_nodup h.1 ?_).2 (fun x => ?_)
  · exact hk.imp (fun h => by omega)
  · rw [h.2 x, hl]; simp

theorem sorted_of_perm {keys ss : List Int} (h : ss.Perm keys) (hk : keys.Pairwise (· < ·)) : (ss.mergeSort fun x y => decide (x ≤ y)) = keys := by
  have tr : ∀ a b c : Int, decide (a ≤ b) = true → decide (b ≤ c) = true → decide (a ≤ c) = true := fun a b c h1 h2 => by simp only [decide_eq_true_eq] at *; omega
  have to : ∀ a b : Int, (decide (a ≤ b) || decide (b ≤ a)) = true := fun a b => by simp only [Bool.or_eq_true, decide_eq_true_eq]; omega
  refine List.Perm.eq_of_pairwise (le := fun a b => decide (a ≤ b) = true) (fun a b _ _ h1 h2 => ?_) (List.pairwise_mergeSort tr to ss) (hk.imp (fun h => by simp only [decide_eq_true_eq]; omega)) ((List.mergeSort_perm ss _).trans h)
  simp only [decide_eq_true_eq] at h1 h2
  omega

theorem infoU64 : (Try.prog.info? 22).map (fun i => (i.zero, i.size, i.bytes)) = some (some (.int .u64 0), 1, 8) := by kernel_rfl

theorem pgElem_ptr {v : Value} {y : DataW Unit × List MemPlace} (h : pgElem v = some y) : ∃ c, v = .pointer c := by
  unfold pgElem at h
  split at h
  · exact ⟨_, rfl⟩
  · exact ⟨_, rfl⟩
  · cases h

set_option maxHeartbeats 1600000 in
theorem pages_any {w : World} {m : Nat} {M : PM} {F : Nat → Prop} (h : MemAt w m M F) :
    Calls Try.prog 24 #[.pointer (some ⟨m, 0, none⟩)] w fun e w' => ∃ v, e = .returned v ∧ w'.ownsRow w.heap.size 22 1 v M.keys.length (M.keys.map (Value.int .u64)) ∧ Kept Non w w' := by
  obtain ⟨bm, blk, h⟩ := h
  have c0 := h.c0
  have hfew := h.wf.few
  have hmost := h.wf.most
  have hsrt := h.wf.sorted
  have hbm := h.flt bm h.fbm
  obtain ⟨i1, hi1, hz10, hz11, hz12⟩ := info_parts infoU64
  have HS := Lib.hid hsrt
  have H := Lib.hid h
  have hown := h.own
  clear h hsrt
  go_enter Try.func24, Try.ntmps24
  go_wp2_with (at_range; refine wpList_range_own _ rfl _ 81 rfl 22 101 lawU Try.underlying81 pgElem bm _ _ rfl hown ?_; intro w0 hrg0 hg0 hs0; have HRG0 := Lib.hid hrg0; have HG0 := Lib.hid hg0; have HS0 := Lib.hid hs0; clear hrg0 hg0 hs0 hown)
  go_frame
  go_loopw [3] (fun v wr => ∃ (left : Lit → Bool) (cnt : Nat) (ss : List Int), wr.ranges Try.prog 22 pgElem bm w.heap.size M.keys.length (pd M.keys blk) left cnt ∧ wr.ownsRow (w.heap.size + 1) 22 1 v ss.length (ss.map (Value.int .u64)) ∧ CollI M.keys left ss ∧ Kept Non w wr ∧ w.heap.size + 1 ≤ wr.heap.size ∧ ss.length + cnt ≤ M.keys.length) (fun _ wr => wr.rangeLeft bm w.heap.size)
  case atStart =>
    refine ⟨_, _, [], HRG0.out, World.ownsRow_nil _ _ _ _, ⟨List.nodup_nil, fun x => ?_⟩, (Kept.refl _ _).grown HG0.out (fun k hk => by cases hk), by rw [HS0.out]; exact Nat.le_refl _, by rw [size_pd]; simp⟩
    rw [has_pd]
    by_cases hx : x ∈ M.keys <;> simp [hx]
  case round =>
    obtain ⟨left, cnt, ss, hrg, hO, hC, hK, hsz, hct⟩ := hrel
    have HO := Lib.hid hO
    have HC := Lib.hid hC
    have HK := Lib.hid hK
    have HRG := Lib.hid hrg
    clear hO hC hK
    go_wp2_with (at_next; refine wpList_next_ranges _ rfl _ rfl 22 lawU pgElem (Value.int .u64) Value.pointer (fun key kl hk => by obtain ⟨x, rfl, _⟩ := Maps.keyOf_int_inv Try.underlying22 hk; exact ⟨x, rfl⟩) (fun v y hv => pgElem_ptr hv) bm w.heap.size _ _ _ _ rfl hrg ?_ ?_)
    · intro _ hl0
      have HL0 := Lib.hid hl0
      clear hl0 hrg
      have hP : ss.Perm M.keys := HC.out.perm HS.out HL0.out
      have hlen := hP.length_eq
      have HP := Lib.hid hP
      clear hP
      by_cases hss : ss = []
      · have hv3 : ∃ p cap, u3 = .slice p 0 cap := by
          obtain ⟨_, ⟨h1, _⟩ | ⟨g, cap, cur, h1, _⟩⟩ := HO.out
          · exact ⟨none, 0, h1⟩
          · subst hss; exact ⟨_, cap, h1⟩
        obtain ⟨p, cap, rfl⟩ := hv3
        have hke : M.keys = [] := by have := HP.out; subst hss; exact List.perm_nil.1 this.symm
        have HKE := Lib.hid hke
        have HSS := Lib.hid hss
        clear hke hss
        go_wp2_with (go_at_call 54; refine (Su_Sort_int_nil p cap _).mono ?_; rintro e w' ⟨rfl, rfl⟩)
        go_ret
        refine ⟨_, rfl, ?_, HK.out⟩
        have := HO.out
        rw [HSS.out] at this
        rw [HKE.out]
        exact ownsRow_mono this (by omega)
      · obtain ⟨_, ⟨h1, h2⟩ | ⟨g, cap, cur, rfl, hg, hb, hn, hcap, hcs, ht⟩⟩ := HO.out
        · exact absurd (List.eq_nil_of_length_eq_zero h2) hss
        · have hgl := lt_blk hb
          have hH := holds_of_blockU (ss := ss) hb (by simpa using ht)
          have hso := fun w' hw => sortu_any g 0 cap ss w' hw
          have HSO := Lib.hid (sortu_any g 0 cap ss wr hH hgl (by omega))
          have HB := Lib.hid hb
          have HCS := Lib.hid hcs
          have HE := Lib.hid (sorted_of_perm HP.out HS.out)
          have HLN := Lib.hid hlen
          clear hso hH hb hcs ht hlen hss
          go_wp2_with (go_at_call 54; refine HSO.out.mono ?_; rintro e w' ⟨rfl, n, os, rfl⟩)
          go_ret
          rw [HE.out]
          refine ⟨_, rfl, ?_, HK.out.grown (grownBy_sortedU _) (fun k hk => by cases hk; exact .inr (by omega))⟩
          have h3 := ownsRow_sortedU (w := wr) (base := w.heap.size) (n := n) (os := os) (ss := ss) (ts := M.keys) HLN.out.symm (by omega) HB.out hn hcap (by simpa using HCS.out)
          rw [HLN.out] at h3 ⊢
          exact h3
    · intro x c kl y1 y2 w1 cnt1 hkey hlk hv hat hrg1 hlt hg1 hs1 hen
      obtain ⟨x', ex, rfl, hwx⟩ := Maps.keyOf_int_inv Try.underlying22 hkey
      cases ex
      have hx : x ∈ M.keys := by
        by_cases hx : x ∈ M.keys
        · exact hx
        · have a1 := hat .nil
          have a2 := hat (.lit (.int .u64 0))
          rw [at_pd_out _ _ _ _ hx] at a1 a2
          rw [← a1] at a2
          cases a2
      have HC1 := Lib.hid (HC.out.step hx hlk)
      have HRG1 := Lib.hid hrg1
      have HK1 := Lib.hid (HK.out.grown hg1 (fun k hk => by cases hk; exact .inr (Nat.le_refl _)))
      have ho1 : w1.ownsRow (w.heap.size + 1) 22 1 u3 ss.length (ss.map (Value.int .u64)) := ownsRow_kept HO.out ((Kept.refl (fun k => k = w.heap.size) wr).grown hg1 (fun k hk => by cases hk; exact .inl rfl)) (fun k hk => by omega)
      have HO1 := Lib.hid ho1
      have hsz1 : w.heap.size + 1 ≤ w1.heap.size := by omega
      have HLT := Lib.hid hlt
      clear hkey hlk hv hat hrg1 hg1 hs1 hx ho1 hwx hlt hrg
      go_wp2_with (at_builtin; refine wpList_push2 (w.heap.size + 1) w1 #[.int .u64 x] hsz1 rfl _ _ 47 rfl 22 _ _ 1 8 Try.underlying47 hi1 hz10 hz11 hz12 rfl (by omega) _ ss.length _ HO1.out rfl rfl rfl (fun u hu => by simp at hu; subst hu; rfl) (by unfold maxLen; omega) (by omega) ?_; intro v2 w2 ho hk2 _; have HO2 := Lib.hid ho; have HK2 := Lib.hid hk2; clear ho hk2)
      have hlt' := HLT.out
      have hrg2 := ranges_blk HRG1.out (HK2.out.block bm (by omega) (by omega)) (HK2.out.block w.heap.size (by omega) (by omega))
      refine ⟨⟨_, cnt1, ss ++ [x], hrg2, ?_, HC1.out, HK1.out.then_ HK2.out (fun k hk => .inr (by omega)), by have := HK2.out.size; omega, by simp; omega⟩, ?_⟩
      · have := HO2.out
        simpa using this
      · rw [hrg2.left_eq, HRG.out.left_eq]
        exact hlt'

end Go.Proofs.Ytkmbmbpjppjdjaa
