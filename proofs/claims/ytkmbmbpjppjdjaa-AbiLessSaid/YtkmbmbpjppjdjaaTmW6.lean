/- Walks: capabilities are loaded. -/
import Derived.Test.YtkmbmbpjppjdjaaTmW5
import Derived.Deep.RegionHeld3
namespace Go.Proofs.Ytkmbmbpjppjdjaa
open Go.RowKit Go.Maps TmP
set_option linter.unusedSimpArgs false
set_option linter.unusedVariables false

theorem loadcap_bad {w : World} {m bm : Nat} {blk : Int → Nat} {M : PM} {F : Nat → Prop} (h : Lies w m bm blk M F) (a : Int) (h0 : 0 ≤ a) (h1 : a < 18446744073709551616) (hE : granE M.keys a ≠ 0) :
    Calls Try.prog 30 #[.pointer (some ⟨m, 0, none⟩), .int .u64 a] w fun e w' => e = .returned (.tuple #[capV Cap.zero, .int .i64 (granE M.keys a)]) ∧ Kept Non w w' := by
  have hp := fun w' (hk : Kept Non w w') => granule_any (h.kept0 hk) a h0 h1
  simp only [granR_bad rfl hE] at hp
  have HP := Lib.hid hp
  have hb := bne_t hE
  clear h hE hp
  go_enter Try.func30, Try.ntmps30
  go_wp2_with (go_at_call 55; refine (HP.out _ ((Kept.refl Non w).alloc _)).mono ?_; rintro e w' ⟨rfl, rfl⟩)
  exact bodyPost_ret (v := .tuple #[capV Cap.zero, .int .i64 (granE M.keys a)]) (by simp [results, Try.results30, go_sem, capV, Cap.zero]) rfl ⟨rfl, (Kept.refl Non w).alloc _⟩

/-- A word of a page. -/
def pgWord (M : PM) (p : Int) (o : Nat) : Int := ofB (M.get (256 * p + o) 8)

/-- Behind the literal: the result's variable, and the capability's. -/
structure LcAt (w : World) (M : PM) (a : Int) (wx : World) : Prop where
  kept : Kept Non w wx
  res : wx.heap[w.heap.size]? = some (.cells #[.int .u64 0, .int .u64 0, .int .u64 0, .int .i64 0, .int .i64 0, .bool false] 30 (0, 0))
  box : wx.heap[w.heap.size + 1]? = some (.cells #[.int .u64 (pgWord M (a / 256) (a % 256).toNat), .int .u64 (pgWord M (a / 256) ((a % 256).toNat + 8)), .int .u64 (pgWord M (a / 256) ((a % 256).toNat + 16)), .int .i64 (M.byte (a + 24)), .int .i64 (M.byte (a + 25)), .bool (M.tag (a / 32))] 30 (0, 0))

theorem LcAt.mk' (w : World) (M : PM) (a : Int) : LcAt w M a (((w.alloc (.cells #[.int .u64 0, .int .u64 0, .int .u64 0, .int .i64 0, .int .i64 0, .bool false] 30)).alloc (.cells #[.int .u64 (pgWord M (a / 256) (a % 256).toNat), .int .u64 (pgWord M (a / 256) ((a % 256).toNat + 8)), .int .u64 (pgWord M (a / 256) ((a % 256).toNat + 16)), .int .i64 (M.byte (a + 24)), .int .i64 (M.byte (a + 25)), .bool (M.tag (a / 32))] 30)).drew) := by
  refine ⟨(((Kept.refl _ _).alloc _).alloc _).drew, ?_, ?_⟩
  · exact blk_alloc (blk_new w _) _
  · have := blk_new (w.alloc (.cells #[.int .u64 0, .int .u64 0, .int .u64 0, .int .i64 0, .int .i64 0, .bool false] 30)) (.cells #[.int .u64 (pgWord M (a / 256) (a % 256).toNat), .int .u64 (pgWord M (a / 256) ((a % 256).toNat + 8)), .int .u64 (pgWord M (a / 256) ((a % 256).toNat + 16)), .int .i64 (M.byte (a + 24)), .int .i64 (M.byte (a + 25)), .bool (M.tag (a / 32))] 30)
    rw [World.size_alloc] at this
    exact this

set_option maxRecDepth 100000 in
set_option maxHeartbeats 1600000 in
theorem loadcap_ok {w : World} {m bm : Nat} {blk : Int → Nat} {M : PM} {F : Nat → Prop} (h : Lies w m bm blk M F) (a : Int) (h0 : 0 ≤ a) (h1 : a < 18446744073709551616) (hE : granE M.keys a = 0) :
    Calls Try.prog 30 #[.pointer (some ⟨m, 0, none⟩), .int .u64 a] w fun e w' => e = .returned (.tuple #[capV (M.capAt a), .int .i64 0]) ∧ Kept Non w w' := by
  have hp := fun w' (hk : Kept Non w w') => granule_any (h.kept0 hk) a h0 h1
  simp only [granR_ok hE] at hp
  obtain ⟨ha, hk⟩ := granE_ok hE
  have HP := Lib.hid hp
  have H := Lib.hid h
  have hsl := fun w' => slice_lh w' (blk (a / 256)) (a % 256) (a % 256 + 32) (by omega) (by omega) (by omega) (by omega)
  rw [show (a % 256 + 32 - a % 256).toNat = 32 by omega] at hsl
  have hs8 := fun w' => slice_to w' (blk (a / 256)) (a % 256).toNat (256 - (a % 256).toNat) 8 (by omega) (by omega) (by omega)
  have hs16 := fun w' => slice_mid w' (blk (a / 256)) (a % 256).toNat (256 - (a % 256).toNat) 8 16 (by omega) (by omega) (by omega) (by omega) (by omega)
  have hs24 := fun w' => slice_mid w' (blk (a / 256)) (a % 256).toNat (256 - (a % 256).toNat) 16 24 (by omega) (by omega) (by omega) (by omega) (by omega)
  have hfit : a % 256 + 32 ≤ 256 := by omega
  have hpage : ∀ w', Kept Non w w' → PageAt w' (blk (a / 256)) M (a / 256) := fun w' hk' => (h.kept0 hk').page _ hk
  have hof : ∀ (o cap : Nat) w', o + 8 ≤ 256 → Kept Non w w' → Calls Try.prog 57 #[.slice (some ⟨blk (a / 256), o, none⟩) 8 cap] w' fun e w'' => e = .returned (.int .u64 (pgWord M (a / 256) o)) ∧ w' = w'' := fun o cap w' ho hk' => by
    have := of_any (blk (a / 256)) o cap (M.get (256 * (a / 256) + o) 8) w' (fun i x hx => by
      have hi : i < 8 := by
        have := (List.getElem?_eq_some_iff.1 hx).1
        rwa [length_get] at this
      rw [get_getElem? M (256 * (a / 256) + o) 8 i hi] at hx
      cases hx
      rw [(hpage w' hk').byte (i := o + i) (by omega)]
      congr 2
      congr 1
      omega) (get_range h.wf _ 8) (by rw [length_get]; omega)
    rwa [length_get] at this
  have HW24 := Lib.hid (IntWalk.i64_in (M.byte (a + 24)) (by have := h.wf.lo (a + 24); have := h.wf.hi (a + 24); omega))
  have HW25 := Lib.hid (IntWalk.i64_in (M.byte (a + 25)) (by have := h.wf.lo (a + 25); have := h.wf.hi (a + 25); omega))
  have HPG := Lib.hid hpage
  have HOF := Lib.hid hof
  clear hp h hE ha hpage hof
  go_enter Try.func30, Try.ntmps30
  go_upto_region 5 with (go_at_call 55; refine (HP.out _ ((Kept.refl Non w).alloc _)).mono ?_; rintro e w' ⟨rfl, rfl⟩)
  have hS : ∀ w', Kept Non w w' → w'.cell? ⟨blk (a / 256), (a % 256).toNat + 24, none⟩ = some (.int .u8 (M.byte (a + 24))) ∧ w'.cell? ⟨blk (a / 256), (a % 256).toNat + 25, none⟩ = some (.int .u8 (M.byte (a + 25))) ∧
      w'.cell? ⟨blk (a / 256), 256 + (a % 256 / 32).toNat, none⟩ = some (.bool (M.tag (a / 32))) ∧ Kept Non w w' := fun w' hk' => by
    have hp := HPG.out w' hk'
    have h1 := hp.byte (i := (a % 256).toNat + 24) (by omega)
    have h2 := hp.byte (i := (a % 256).toNat + 25) (by omega)
    have h3 := hp.tag (j := (a % 256 / 32).toNat) (by omega)
    rw [show 256 * (a / 256) + (((a % 256).toNat + 24 : Nat) : Int) = a + 24 by omega] at h1
    rw [show 256 * (a / 256) + (((a % 256).toNat + 25 : Nat) : Int) = a + 25 by omega] at h2
    rw [show 8 * (a / 256) + (((a % 256 / 32).toNat : Nat) : Int) = a / 32 by omega] at h3
    exact ⟨h1, h2, h3, hk'⟩
  have HS := Lib.hid hS
  clear hS
  have hq := IntWalk.i64_quo (a % 256) 32 (by omega)
  have hq0 : 0 ≤ a % 256 / 32 := by omega
  have hq8 : a % 256 / 32 < 8 := by omega
  go_cut [10] (fun s10 wx => s10 = .pointer (some ⟨w.heap.size + 1, 0, none⟩) ∧ LcAt w M a wx)
  case first =>
   go_region_held3 (fun w' => w'.cell? ⟨blk (a / 256), (a % 256).toNat + 24, none⟩ = some (.int .u8 (M.byte (a + 24))) ∧ w'.cell? ⟨blk (a / 256), (a % 256).toNat + 25, none⟩ = some (.int .u8 (M.byte (a + 25))) ∧ w'.cell? ⟨blk (a / 256), 256 + (a % 256 / 32).toNat, none⟩ = some (.bool (M.tag (a / 32))) ∧ Kept Non w w')
    (exact HS.out _ (by repeat (first | exact Kept.refl _ _ | apply Kept.drew | apply Kept.alloc)))
    (first | (go_at_call 57; refine (HOF.out _ _ _ (by omega) (by repeat (first | exact Kept.refl _ _ | apply Kept.drew | apply Kept.alloc))).mono ?_; rintro e w' ⟨rfl, rfl⟩))
   all_goals
      try go_wp2_with fail
      go_meet
      rw [HW24.out, HW25.out]
      exact ⟨rfl, LcAt.mk' w M a⟩
  case rest =>
  obtain ⟨rfl, hC⟩ := hcut
  have hb0 := cell_blk hC.box 0
  have hr0 := cell_blk hC.res 0
  have hfb0 := free_blk hC.box 0
  have hfr0 := free_blk hC.res 0
  have hb1 := cell_blk hC.box 1
  have hr1 := cell_blk hC.res 1
  have hfb1 := free_blk hC.box 1
  have hfr1 := free_blk hC.res 1
  have hb2 := cell_blk hC.box 2
  have hr2 := cell_blk hC.res 2
  have hfb2 := free_blk hC.box 2
  have hfr2 := free_blk hC.res 2
  have hb3 := cell_blk hC.box 3
  have hr3 := cell_blk hC.res 3
  have hfb3 := free_blk hC.box 3
  have hfr3 := free_blk hC.res 3
  have hb4 := cell_blk hC.box 4
  have hr4 := cell_blk hC.res 4
  have hfb4 := free_blk hC.box 4
  have hfr4 := free_blk hC.res 4
  have hb5 := cell_blk hC.box 5
  have hr5 := cell_blk hC.res 5
  have hfb5 := free_blk hC.box 5
  have hfr5 := free_blk hC.res 5
  simp only [List.getElem?_toArray] at hb0 hb1 hb2 hb3 hb4 hb5 hr0 hr1 hr2 hr3 hr4 hr5
  have HK := Lib.hid hC.kept
  clear hC
  have e0 : 256 * (a / 256) + (((a % 256).toNat : Nat) : Int) = a := by omega
  have e8 : 256 * (a / 256) + (((a % 256).toNat + 8 : Nat) : Int) = a + 8 := by omega
  have e16 : 256 * (a / 256) + (((a % 256).toNat + 16 : Nat) : Int) = a + 16 := by omega
  have hV : ∀ t, (if M.byte (a + 25) ≥ 64 then -1 else M.byte (a + 25)) = t → capV (M.capAt a) = .agg #[.int .u64 (pgWord M (a / 256) (a % 256).toNat), .int .u64 (pgWord M (a / 256) ((a % 256).toNat + 8)), .int .u64 (pgWord M (a / 256) ((a % 256).toNat + 16)), .int .i64 (M.byte (a + 24)), .int .i64 t, .bool (M.tag (a / 32))] := fun t ht => by
    unfold pgWord
    rw [e0, e8, e16]
    simp only [capV, PM.capAt, ht]
  have HV := Lib.hid hV
  clear hV e0 e8 e16
  by_cases hT : 64 ≤ M.byte (a + 25)
  · go_wp2
    rw [HV.out (-1) (if_pos hT)]
    refine bodyPost_ret (v := .tuple #[.agg #[.int .u64 (pgWord M (a / 256) (a % 256).toNat), .int .u64 (pgWord M (a / 256) ((a % 256).toNat + 8)), .int .u64 (pgWord M (a / 256) ((a % 256).toNat + 16)), .int .i64 (M.byte (a + 24)), .int .i64 (-1), .bool (M.tag (a / 32))], .int .i64 0]) (by simp [results, Try.results30, go_sem, hb0, hb1, hb2, hb3, hb4, hb5, hr0, hr1, hr2, hr3, hr4, hr5]) rfl ⟨rfl, ?_⟩
    repeat (refine Kept.setCell ?_ (.inr (by simp)) _)
    exact HK.out
  · go_wp2
    rw [HV.out _ (if_neg (by omega))]
    refine bodyPost_ret (v := .tuple #[.agg #[.int .u64 (pgWord M (a / 256) (a % 256).toNat), .int .u64 (pgWord M (a / 256) ((a % 256).toNat + 8)), .int .u64 (pgWord M (a / 256) ((a % 256).toNat + 16)), .int .i64 (M.byte (a + 24)), .int .i64 (M.byte (a + 25)), .bool (M.tag (a / 32))], .int .i64 0]) (by simp [results, Try.results30, go_sem, hb0, hb1, hb2, hb3, hb4, hb5, hr0, hr1, hr2, hr3, hr4, hr5]) rfl ⟨rfl, ?_⟩
    repeat (refine Kept.setCell ?_ (.inr (by simp)) _)
    exact HK.out

/-- 'LoadCap'. -/
theorem loadcap_any {w : World} {m : Nat} {M : PM} {F : Nat → Prop} (h : MemAt w m M F) (a : Int) (h0 : 0 ≤ a) (h1 : a < 18446744073709551616) :
    Calls Try.prog 30 #[.pointer (some ⟨m, 0, none⟩), .int .u64 a] w fun e w' => e = .returned (.tuple #[capV (M.loadCap a), .int .i64 (granE M.keys a)]) ∧ Kept Non w w' := by
  obtain ⟨bm, blk, h⟩ := h
  by_cases hE : granE M.keys a = 0
  · have := loadcap_ok h a h0 h1 hE
    rw [hE]
    simpa [PM.loadCap, hE] using this
  · have := loadcap_bad h a h0 h1 hE
    simpa [PM.loadCap, hE] using this

end Go.Proofs.Ytkmbmbpjppjdjaa
