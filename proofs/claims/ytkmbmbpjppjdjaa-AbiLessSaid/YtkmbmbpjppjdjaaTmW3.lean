/- Walks: a new memory; numbers are loaded and stored. -/
import Derived.Test.YtkmbmbpjppjdjaaTmPg
import Derived.Test.YtkmbmbpjppjdjaaWord
import Derived.Deep.DeepCutAuto
import Derived.Deep.RegionWith
namespace Go.Proofs.Ytkmbmbpjppjdjaa
open Go.RowKit Go.Maps TmP
set_option linter.unusedSimpArgs false
set_option linter.unusedVariables false

/-- A memory is made. -/
theorem new_ok (w : World) (b : Int) (h0 : 0 ≤ b) (h1 : b ≤ 256) :
    Calls Try.prog 16 #[.int .i64 b] w fun e w' => e = .returned (.tuple #[.pointer (some ⟨w.heap.size + 1, 0, none⟩), .int .i64 0]) ∧
      MemAt w' (w.heap.size + 1) (PM.new b) (fun k => k = w.heap.size ∨ k = w.heap.size + 1) ∧ Kept Non w w' := by
  have hmm := @run_makeMap Try.prog
  have hd0 : decide (b < 0) = false := by simp; omega
  have hd1 : decide (256 < b) = false := by simp; omega
  go_enter Try.func16, Try.ntmps16
  go_wp2
  go_ret2
  refine ⟨rfl, ⟨w.heap.size, fun _ => 0, ?_⟩, ((Kept.refl _ _).alloc _).alloc _⟩
  have nil : ∀ p, p ∈ (PM.new b).keys → False := fun p hp => by simp [PM.new] at hp
  have hwf : (PM.new b).WF := ⟨List.Pairwise.nil, fun p hp => (nil p hp).elim, fun _ => Int.le_refl 0, fun _ => (by decide : (0 : Int) ≤ 255), fun _ _ => rfl, fun _ _ => rfl, h0, h1⟩
  refine ⟨hwf, ?_, ?_, fun p hp => (nil p hp).elim, fun p hp => (nil p hp).elim, .inr rfl, .inl rfl, fun p hp => (nil p hp).elim, ?_⟩
  · have := blk_new (w.alloc (.map #[] 0)) (.cells #[.map (some w.heap.size), .int .i64 b] 83)
    simpa [PM.new] using this
  · exact ownsMap_blk (World.ownsMap_made w _ _ _) (Below.heap_alloc _ _ _ (by simp))
  · rintro k (rfl | rfl) <;> simp <;> omega

theorem new_bad (w : World) (b : Int) (h : b < 0 ∨ 256 < b) :
    Calls Try.prog 16 #[.int .i64 b] w fun e w' => e = .returned (.tuple #[.pointer none, .int .i64 1]) ∧ w = w' := by
  rcases h with h | h
  · have hd0 : decide (b < 0) = true := by simpa using h
    go_enter Try.func16, Try.ntmps16
    go_wp2
    go_ret2
    exact ⟨rfl, rfl⟩
  · have hd0 : decide (b < 0) = false := by simp; omega
    have hd1 : decide (256 < b) = true := by simpa using h
    go_enter Try.func16, Try.ntmps16
    go_wp2
    go_ret2
    exact ⟨rfl, rfl⟩

theorem slice_lh (w : World) (b : Nat) (l h : Int) (h0 : 0 ≤ l) (h1 : l ≤ h) (h2 : h ≤ 256) (h3 : l < 256) :
    (Instr.sliceAt 97 (.pointer (some ⟨b, 0, none⟩)) (some (.int .i64 l)) (some (.int .i64 h)) none).run Try.prog w = .ok (.slice (some ⟨b, l.toNat, none⟩) (h - l).toNat (256 - l.toNat)) w := by
  have hA : Try.prog.arrayLen 97 = 256 := by kernel_rfl
  have hE : Try.prog.elem 97 = 5 := by kernel_rfl
  have hS : (sizeOf 5).run Try.prog w = .ok 1 w := by kernel_rfl
  rw [run_sliceAt_array_lh w 97 ⟨b, 0, none⟩ (by rw [hA, hE]; exact Try.underlying97) .i64 .i64 l h h0 h1 (by rw [hA]; exact h2), hA, hE, hS]
  have e1 : (h - l).toNat = h.toNat - l.toNat := by omega
  simp only [Result.andThen, slicedAt]
  rw [if_neg (by omega), e1]
  unfold Addr.add
  rw [Nat.mul_one]
  split
  · rename_i e
    rw [e]
  · simp
theorem slice_l (w : World) (b : Nat) (l : Int) (h0 : 0 ≤ l) (h3 : l < 256) :
    (Instr.sliceAt 97 (.pointer (some ⟨b, 0, none⟩)) (some (.int .i64 l)) none none).run Try.prog w = .ok (.slice (some ⟨b, l.toNat, none⟩) (256 - l.toNat) (256 - l.toNat)) w := by
  have hA : Try.prog.arrayLen 97 = 256 := by kernel_rfl
  have hE : Try.prog.elem 97 = 5 := by kernel_rfl
  have hS : (sizeOf 5).run Try.prog w = .ok 1 w := by kernel_rfl
  rw [run_sliceAt_array_l w 97 ⟨b, 0, none⟩ (by rw [hA, hE]; exact Try.underlying97) .i64 l h0 (by rw [hA]; omega), hA, hE, hS]
  simp only [Result.andThen, slicedAt]
  rw [if_neg (by omega)]
  unfold Addr.add
  rw [Nat.mul_one]
  split
  · rename_i e
    rw [e]
  · simp

/-- A number's place. -/
theorem numE_ok {keys : List Int} {a n : Int} (h : numE keys a n = 0) : (n = 1 ∨ n = 2 ∨ n = 4 ∨ n = 8) ∧ a % n = 0 ∧ a / 256 ∈ keys := by
  unfold numE at h
  split at h
  · cases h
  · rename_i hn
    split at h
    · cases h
    · rename_i ha
      split at h
      · cases h
      · rename_i hk
        refine ⟨?_, by simpa using ha, by simpa using hk⟩
        by_cases h1 : n = 1
        · exact .inl h1
        · by_cases h2 : n = 2
          · exact .inr (.inl h2)
          · by_cases h4 : n = 4
            · exact .inr (.inr (.inl h4))
            · by_cases h8 : n = 8
              · exact .inr (.inr (.inr h8))
              · exact absurd ⟨h1, h2, h4, h8⟩ hn
theorem numE_fit {keys : List Int} {a n : Int} (h : numE keys a n = 0) (h0 : 0 ≤ a) : 1 ≤ n ∧ n ≤ 8 ∧ a % 256 + n ≤ 256 ∧ (a + n - 1) / 32 = a / 32 := by
  obtain ⟨hn, ha, _⟩ := numE_ok h
  rcases hn with rfl | rfl | rfl | rfl <;> omega

theorem load_bad {w : World} {m bm : Nat} {blk : Int → Nat} {M : PM} {F : Nat → Prop} (h : Lies w m bm blk M F) (a n : Int) (h0 : 0 ≤ a) (h1 : a < 18446744073709551616) (hE : numE M.keys a n ≠ 0) :
    Calls Try.prog 32 #[.pointer (some ⟨m, 0, none⟩), .int .u64 a, .int .i64 n] w fun e w' => e = .returned (.tuple #[.int .u64 0, .int .i64 (numE M.keys a n)]) ∧ w = w' := by
  have hp := number_any h a n h0 h1
  rw [numR_bad rfl hE] at hp
  have hb := bne_t hE
  clear h hE
  go_enter Try.func32, Try.ntmps32
  go_wp2_with (go_at_call 58; refine hp.mono ?_; rintro e w' ⟨rfl, rfl⟩)
  go_ret2
  exact ⟨rfl, rfl⟩

set_option maxRecDepth 100000 in
theorem load_ok {w : World} {m bm : Nat} {blk : Int → Nat} {M : PM} {F : Nat → Prop} (h : Lies w m bm blk M F) (a : Int) (n : Nat) (h0 : 0 ≤ a) (h1 : a < 18446744073709551616) (hE : numE M.keys a n = 0) :
    Calls Try.prog 32 #[.pointer (some ⟨m, 0, none⟩), .int .u64 a, .int .i64 n] w fun e w' => e = .returned (.tuple #[.int .u64 (ofB (M.get a n)), .int .i64 0]) ∧ w = w' := by
  have hp := number_any h a n h0 h1
  rw [numR_ok hE] at hp
  obtain ⟨h2, h3, h4, _⟩ := numE_fit hE h0
  have hpg := h.page _ (numE_ok hE).2.2
  have hof := of_any (blk (a / 256)) (a % 256).toNat (256 - (a % 256).toNat) (M.get a n) w (fun i x hx => by
    have hi : i < n := by
      have := (List.getElem?_eq_some_iff.1 hx).1
      rwa [length_get] at this
    rw [get_getElem? M a n i hi] at hx
    cases hx
    rw [hpg.byte (i := (a % 256).toNat + i) (by omega)]
    congr 2
    congr 1
    omega) (get_range h.wf a n) (by rw [length_get]; omega)
  rw [length_get] at hof
  have HP := Lib.hid hp
  have HO := Lib.hid hof
  have hsl := slice_lh w (blk (a / 256)) (a % 256) (a % 256 + n) (by omega) (by omega) (by omega) (by omega)
  rw [show (a % 256 + (n : Int) - a % 256).toNat = n by omega] at hsl
  clear hp hof hpg h hE
  go_enter Try.func32, Try.ntmps32
  go_wp2_with (first | (go_at_call 58; refine HP.out.mono ?_; rintro e w' ⟨rfl, rfl⟩) | (go_at_call 57; refine HO.out.mono ?_; rintro e w' ⟨rfl, rfl⟩))
  go_ret2
  exact ⟨rfl, rfl⟩

theorem load_any {w : World} {m : Nat} {M : PM} {F : Nat → Prop} (h : MemAt w m M F) (a n : Int) (h0 : 0 ≤ a) (h1 : a < 18446744073709551616) :
    Calls Try.prog 32 #[.pointer (some ⟨m, 0, none⟩), .int .u64 a, .int .i64 n] w fun e w' => e = .returned (.tuple #[.int .u64 (M.loadV a n), .int .i64 (numE M.keys a n)]) ∧ w = w' := by
  obtain ⟨bm, blk, h⟩ := h
  by_cases hE : numE M.keys a n = 0
  · obtain ⟨hn, hn8, _⟩ := numE_fit hE h0
    obtain ⟨n, rfl⟩ := Int.eq_ofNat_of_zero_le (show 0 ≤ n by omega)
    have := load_ok h a n h0 h1 hE
    rw [hE]
    simpa [PM.loadV, hE] using this
  · have := load_bad h a n h0 h1 hE
    simpa [PM.loadV, hE] using this

theorem store_bad {w : World} {m bm : Nat} {blk : Int → Nat} {M : PM} {F : Nat → Prop} (h : Lies w m bm blk M F) (a n x : Int) (h0 : 0 ≤ a) (h1 : a < 18446744073709551616) (hE : numE M.keys a n ≠ 0) :
    Calls Try.prog 31 #[.pointer (some ⟨m, 0, none⟩), .int .u64 a, .int .i64 n, .int .u64 x] w fun e w' => e = .returned (.int .i64 (numE M.keys a n)) ∧ w = w' := by
  have hp := number_any h a n h0 h1
  rw [numR_bad rfl hE] at hp
  have hb := bne_t hE
  clear h hE
  go_enter Try.func31, Try.ntmps31
  go_wp2_with (go_at_call 58; refine hp.mono ?_; rintro e w' ⟨rfl, rfl⟩)
  go_ret
  exact ⟨rfl, rfl⟩

set_option maxRecDepth 100000 in
theorem store_ok {w : World} {m bm : Nat} {blk : Int → Nat} {M : PM} {F : Nat → Prop} (h : Lies w m bm blk M F) (a x : Int) (n : Nat) (h0 : 0 ≤ a) (h1 : a < 18446744073709551616) (hx0 : 0 ≤ x) (hx1 : x < 18446744073709551616) (hE : numE M.keys a n = 0) :
    Calls Try.prog 31 #[.pointer (some ⟨m, 0, none⟩), .int .u64 a, .int .i64 n, .int .u64 x] w fun e w' => e = .returned (.int .i64 0) ∧ Lies w' m bm blk (M.putL a (leB x n)) F ∧ Kept F w w' := by
  have hp := number_any h a n h0 h1
  rw [numR_ok hE] at hp
  obtain ⟨h2, h3, h4, h5⟩ := numE_fit hE h0
  have hk := (numE_ok hE).2.2
  have HP := Lib.hid hp
  have H := Lib.hid h
  have HE := Lib.hid hE
  clear hp h hE
  go_enter Try.func31, Try.ntmps31
  go_upto_region 4 with (go_at_call 58; refine HP.out.mono ?_; rintro e w' ⟨rfl, rfl⟩)
  go_cut [] (fun wx => Lies wx m bm blk (M.rawL a (leB x n)) F ∧ Kept F w wx)
  case first =>
    have hsl := fun w' => slice_l w' (blk (a / 256)) (a % 256) (by omega) (by omega)
    go_region_with (go_at_call 56; refine (little_ok x n _ hx0 hx1 (by omega) (by omega)).mono ?_; rintro e w' ⟨v, rfl, hown, hK⟩; obtain ⟨-, g, cap, rfl, hg, hgl, -, hsrc⟩ := own_bytes hown (by omega); have HK := Lib.hid hK; have hcp := copy_page (((H.out.kept0 ((Kept.refl Non w).drew.trans HK.out)).page _ hk)) (a % 256).toNat g 0 (256 - (a % 256).toNat) (256 - (a % 256).toNat) n cap (leB x n) 3 (by rw [length_leB]; exact (Nat.min_eq_left (by omega)).symm) (by rw [length_leB]; omega) hsrc; clear hown hK hsrc)
    all_goals (go_wp2_with fail; go_meet)
    all_goals
      have h1 := H.out.kept0 ((Kept.refl Non w).drew.trans HK.out)
      exact ⟨h1.writeB hk _ (leB_range x n) (by rw [length_leB]; omega), (((Kept.refl F w).drew.trans (HK.out.mono (fun _ h => h.elim))).setCells (.inl (H.out.fpg _ hk)) _ _)⟩
  case rest =>
    obtain ⟨hL, hK⟩ := hcut
    have hpg := hL.page _ (by rw [rawL_keys]; exact hk)
    have hc := hpg.tag (j := (a % 256 / 32).toNat) (by omega)
    have hf := hpg.free (256 + (a % 256 / 32).toNat)
    have HL := Lib.hid hL
    have HK := Lib.hid hK
    clear hL hK hpg
    go_wp2
    go_ret
    have h2 := HL.out.writeT (a := a) (by rw [rawL_keys]; exact hk) false
    have hne : leB x n ≠ [] := fun e => by
      have := congrArg List.length e
      rw [length_leB] at this
      simp at this
      omega
    have hg : (a + (leB x n).length - 1) / 32 = a / 32 := by rw [length_leB]; exact h5
    rw [rawL_setTag _ _ _ _ hne hg, putL_setTag_false _ _ _ hne hg] at h2
    exact ⟨rfl, h2, HK.out.setCell (p := ⟨_, _, none⟩) (.inl (H.out.fpg _ hk)) _⟩

/-- What a call does to a memory that it is given, where no page comes or goes. -/
def DoesF (w : World) (m : Nat) (F : Nat → Prop) (v : Value) (M' : PM) (e : Ending) (w' : World) : Prop :=
  e = .returned v ∧ MemAt w' m M' F ∧ Kept F w w'

/-- 'Store'. -/
theorem store_any {w : World} {m : Nat} {M : PM} {F : Nat → Prop} (h : MemAt w m M F) (a n x : Int) (h0 : 0 ≤ a) (h1 : a < 18446744073709551616) (hx0 : 0 ≤ x) (hx1 : x < 18446744073709551616) :
    Calls Try.prog 31 #[.pointer (some ⟨m, 0, none⟩), .int .u64 a, .int .i64 n, .int .u64 x] w (DoesF w m F (.int .i64 (numE M.keys a n)) (M.store a n x)) := by
  obtain ⟨bm, blk, h⟩ := h
  by_cases hE : numE M.keys a n = 0
  · obtain ⟨hn, hn8, _⟩ := numE_fit hE h0
    obtain ⟨n, rfl⟩ := Int.eq_ofNat_of_zero_le (show 0 ≤ n by omega)
    refine (store_ok h a x n h0 h1 hx0 hx1 hE).mono (fun e w' ⟨he, hl, hk⟩ => ⟨by rw [hE]; exact he, ⟨bm, blk, ?_⟩, hk⟩)
    simpa [PM.store, hE] using hl
  · refine (store_bad h a n x h0 h1 hE).mono (fun e w' ⟨he, hw⟩ => ⟨he, ⟨bm, blk, ?_⟩, by rw [← hw]; exact Kept.refl _ _⟩)
    rw [← hw]
    simpa [PM.store, hE] using h

end Go.Proofs.Ytkmbmbpjppjdjaa
