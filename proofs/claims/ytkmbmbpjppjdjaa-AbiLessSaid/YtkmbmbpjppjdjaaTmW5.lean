/- Walks: capabilities are stored and loaded. -/
import Derived.Test.YtkmbmbpjppjdjaaTmW4
import Derived.RegionTactic
import Derived.BigRegion
namespace Go.Proofs.Ytkmbmbpjppjdjaa
open Go.RowKit Go.Maps TmP
set_option linter.unusedSimpArgs false
set_option linter.unusedVariables false

/-- A capability's cells. -/
def capC (c : Cap) : Array Value := #[.int .u64 c.base, .int .u64 c.top, .int .u64 c.at_, .int .i64 c.perms, .int .i64 c.typ, .bool c.tag]
def capV (c : Cap) : Value := .agg #[.int .u64 c.base, .int .u64 c.top, .int .u64 c.at_, .int .i64 c.perms, .int .i64 c.typ, .bool c.tag]

/-- A word. -/
def U64 (x : Int) : Prop := 0 ≤ x ∧ x < 18446744073709551616
def Cap.U (c : Cap) : Prop := U64 c.base ∧ U64 c.top ∧ U64 c.at_

theorem addr_add (b o k : Nat) : (Addr.add ⟨b, o, none⟩ k) = ⟨b, o + k, none⟩ := by
  unfold Addr.add
  split
  · rename_i e; subst e; rfl
  · rfl
theorem elemB : Try.prog.elem 63 = 5 := by kernel_rfl
theorem sizeB (w : World) : (sizeOf 5).run Try.prog w = .ok 1 w := by kernel_rfl

/-- 'b[8:]', 'b[16:]' of a granule's bytes. -/
theorem slice_at (w : World) (b o cp : Nat) (k : Int) (h0 : 0 ≤ k) (hk : k < 32) (hcp : 32 ≤ cp) :
    (Instr.slice 63 (.slice (some ⟨b, o, none⟩) 32 cp) (some (.int .i64 k)) none none).run Try.prog w = .ok (.slice (some ⟨b, o + k.toNat, none⟩) (32 - k.toNat) (cp - k.toNat)) w := by
  rw [run_slice_l w 63 (some ⟨b, o, none⟩) 32 cp (by rw [elemB]; exact Try.underlying63) .i64 k h0 (by omega), elemB, sizeB]
  simp only [Result.andThen, sliced]
  rw [if_neg (by omega)]
  simp [addr_add]
theorem slice_to (w : World) (b o cp : Nat) (k : Int) (h0 : 0 ≤ k) (hk : k ≤ 32) (hcp : 32 ≤ cp) :
    (Instr.slice 63 (.slice (some ⟨b, o, none⟩) 32 cp) none (some (.int .i64 k)) none).run Try.prog w = .ok (.slice (some ⟨b, o, none⟩) k.toNat cp) w := by
  rw [run_slice_h w 63 (some ⟨b, o, none⟩) 32 cp (by rw [elemB]; exact Try.underlying63) .i64 k h0 (by omega), elemB, sizeB]
  simp only [Result.andThen, sliced]
  rw [if_neg (by omega)]
  simp [addr_add]
theorem slice_mid (w : World) (b o cp : Nat) (j k : Int) (h0 : 0 ≤ j) (hj : j < 32) (hjk : j ≤ k) (hk : k ≤ 32) (hcp : 32 ≤ cp) :
    (Instr.slice 63 (.slice (some ⟨b, o, none⟩) 32 cp) (some (.int .i64 j)) (some (.int .i64 k)) none).run Try.prog w = .ok (.slice (some ⟨b, o + j.toNat, none⟩) (k.toNat - j.toNat) (cp - j.toNat)) w := by
  rw [run_slice_lh w 63 (some ⟨b, o, none⟩) 32 cp (by rw [elemB]; exact Try.underlying63) .i64 .i64 j k h0 hjk (by omega), elemB, sizeB]
  simp only [Result.andThen, sliced]
  rw [if_neg (by omega)]
  simp [addr_add]

/-- 'clear' of a granule's bytes. -/
theorem clear_page {w : World} {b : Nat} {M : PM} {p : Int} (h : PageAt w b M p) (o cap : Nat) (hfit : o + 32 ≤ 256) (ty : TypeId) :
    (Builtin.clear_ #[63] ty #[.slice (some ⟨b, o, none⟩) 32 cap]).run Try.prog w = .ok (.tuple #[]) (w.setCells b o ((List.replicate 32 (0 : Int)).map (Value.int .u8))) := by
  have hst := run_storeCells_cells (P := Try.prog) b o ((List.replicate 32 (0 : Int)).map (Value.int .u8)) 0 w
    (fun j hj => by
      rw [List.length_map, List.length_replicate] at hj
      rw [h.byte (i := o + 0 + j) (by omega)]
      rfl)
    (fun j hj => h.free _)
    (fun v hv => by
      obtain ⟨x, _, rfl⟩ := List.mem_map.1 hv
      rfl)
  have hz : (zeroValue 5).run Try.prog w = .ok (.int .u8 0) w := by kernel_rfl
  have hzc : (Builtin.zeroCells #[Value.int .u8 0] 32).toList = (List.replicate 32 (0 : Int)).map (Value.int .u8) := by kernel_rfl
  generalize (List.replicate 32 (0 : Int)).map (Value.int .u8) = Z at hst hzc ⊢
  simp [Builtin.clear_, run_underlying Try.underlying63, hz, Result.andThen, Value.cells, hzc, hst]

theorem TmP.capB_length (c : Cap) : (capB c).length = 32 := by simp [capB, length_leB]

/-- A granule is written part by part. -/
theorem TmP.granule_parts (M : PM) (a : Int) (c : Cap) :
    ((((((M.rawL a (List.replicate 32 0)).rawL a (leB c.base 8)).rawL (a + 8) (leB c.top 8)).rawL (a + 16) (leB c.at_ 8)).raw1 (a + 24) (c.perms % 256)).raw1 (a + 25) (c.typ % 256)) = M.rawL a (capB c) := by
  refine PM.ext' ?_ (fun x => ?_) (fun g => ?_) ?_
  · simp only [PM.raw1, rawL_keys]
  · simp only [PM.raw1, rawL_byte, length_leB, List.length_replicate, capB_length]
    by_cases hin : a ≤ x ∧ x < a + 32
    · obtain ⟨k, rfl⟩ : ∃ k : Nat, x = a + k := ⟨(x - a).toNat, by omega⟩
      have hc : a ≤ a + (k : Int) ∧ a + (k : Int) < a + ((32 : Nat) : Int) := by omega
      simp only [if_pos hc]
      have e0 : (a + (k : Int) - a).toNat = k := by omega
      have e8 : (a + (k : Int) - (a + 8)).toNat = k - 8 := by omega
      have e16 : (a + (k : Int) - (a + 16)).toNat = k - 16 := by omega
      rw [e0, e8, e16]
      have hk : k < 32 := by omega
      simp only [capB, List.getD_eq_getElem?_getD]
      by_cases h8 : k < 8
      · rw [if_neg (by omega), if_neg (by omega), if_neg (by omega), if_neg (by omega), if_pos (by omega), List.append_assoc, List.append_assoc, List.getElem?_append_left (by rw [length_leB]; omega)]
      · by_cases h16 : k < 16
        · rw [if_neg (by omega), if_neg (by omega), if_neg (by omega), if_pos (by omega), List.append_assoc, List.append_assoc, List.getElem?_append_right (by rw [length_leB]; omega), List.getElem?_append_left (by rw [length_leB, length_leB]; omega), length_leB]
        · by_cases h24 : k < 24
          · rw [if_neg (by omega), if_neg (by omega), if_pos (by omega), List.append_assoc, List.append_assoc, List.getElem?_append_right (by rw [length_leB]; omega), List.getElem?_append_right (by rw [length_leB, length_leB]; omega), List.getElem?_append_left (by rw [length_leB, length_leB, length_leB]; omega), length_leB, length_leB]
            rw [show k - 8 - 8 = k - 16 by omega]
          · rw [List.append_assoc, List.append_assoc, List.getElem?_append_right (by rw [length_leB]; omega), List.getElem?_append_right (by rw [length_leB, length_leB]; omega), List.getElem?_append_right (by rw [length_leB, length_leB, length_leB]; omega), length_leB, length_leB, length_leB]
            rw [if_neg (show ¬ (a + 16 ≤ a + (k : Int) ∧ a + (k : Int) < a + 16 + ((8 : Nat) : Int)) by omega), if_neg (show ¬ (a + 8 ≤ a + (k : Int) ∧ a + (k : Int) < a + 8 + ((8 : Nat) : Int)) by omega), if_neg (show ¬ (a ≤ a + (k : Int) ∧ a + (k : Int) < a + ((8 : Nat) : Int)) by omega), List.getElem?_replicate]
            have : k = 24 ∨ k = 25 ∨ k = 26 ∨ k = 27 ∨ k = 28 ∨ k = 29 ∨ k = 30 ∨ k = 31 := by omega
            rcases this with rfl | rfl | rfl | rfl | rfl | rfl | rfl | rfl <;> simp
    · rw [if_neg (by omega), if_neg (by omega), if_neg (by omega), if_neg (by omega), if_neg (by omega), if_neg (by omega), if_neg (by omega)]
  · simp only [PM.raw1, rawL_tag]
  · simp only [PM.raw1, rawL_budget]

theorem granE_ok {keys : List Int} {a : Int} (h : granE keys a = 0) : a % 32 = 0 ∧ a / 256 ∈ keys := by
  unfold granE at h
  split at h
  · cases h
  · rename_i ha
    split at h
    · cases h
    · rename_i hk
      exact ⟨by simpa using ha, by simpa using hk⟩

theorem storecap_bad {w : World} {m bm : Nat} {blk : Int → Nat} {M : PM} {F : Nat → Prop} (h : Lies w m bm blk M F) (a : Int) (c : Cap) (h0 : 0 ≤ a) (h1 : a < 18446744073709551616) (hE : granE M.keys a ≠ 0) :
    Calls Try.prog 29 #[.pointer (some ⟨m, 0, none⟩), .int .u64 a, capV c] w fun e w' => e = .returned (.int .i64 (granE M.keys a)) ∧ Kept Non w w' := by
  have hp := fun w' (hk : Kept Non w w') => granule_any (h.kept0 hk) a h0 h1
  simp only [granR_bad rfl hE] at hp
  have HP := Lib.hid hp
  have hb := bne_t hE
  clear h hE hp
  unfold capV
  go_enter Try.func29, Try.ntmps29
  go_wp2_with (go_at_call 55; refine (HP.out _ ((Kept.refl Non w).alloc _)).mono ?_; rintro e w' ⟨rfl, rfl⟩)
  go_ret
  exact ⟨rfl, (Kept.refl Non w).alloc _⟩

/-- On the way: the memory is M', the capability lies in block g. -/
structure ScAt (w : World) (m bm : Nat) (blk : Int → Nat) (F : Nat → Prop) (g : Nat) (c : Cap) (M' : PM) (wx : World) : Prop where
  lies : Lies wx m bm blk M' F
  kept : Kept F w wx
  box : wx.heap[g]? = some (.cells (capC c) 30 (0, 0))

theorem ScAt.step {w : World} {m bm : Nat} {blk : Int → Nat} {F : Nat → Prop} {g : Nat} {c : Cap} {M' M2 : PM} {wx wy : World} (h : ScAt w m bm blk F g c M' wx) (hg : ¬ F g) (hl : Lies wy m bm blk M2 F) (hk : Kept F wx wy) : ScAt w m bm blk F g c M2 wy :=
  ⟨hl, h.kept.trans hk, hk.blk h.box hg⟩

/-- Bytes of the granule. -/
theorem ScAt.bytes {w : World} {m bm : Nat} {blk : Int → Nat} {F : Nat → Prop} {g : Nat} {c : Cap} {M' : PM} {wx wy : World} (h : ScAt w m bm blk F g c M' wx) (hg : ¬ F g) (hk : Kept Non wx wy) {a : Int} (ha : a / 256 ∈ M'.keys) (l : List Int) (hl : ∀ b ∈ l, 0 ≤ b ∧ b ≤ 255) (hfit : a % 256 + l.length ≤ 256) :
    ScAt w m bm blk F g c (M'.rawL a l) (wy.setCells (blk (a / 256)) (a % 256).toNat (l.map (Value.int .u8))) :=
  h.step hg ((h.lies.kept0 hk).writeB ha l hl hfit) ((hk.mono (fun _ h => h.elim)).setCells (.inl (h.lies.fpg _ ha)) _ _)

theorem leB8_ne (x : Int) : (leB x 8).length = 8 := length_leB x 8

set_option maxRecDepth 100000 in
set_option maxHeartbeats 1600000 in
theorem storecap_ok {w : World} {m bm : Nat} {blk : Int → Nat} {M : PM} {F : Nat → Prop} (h : Lies w m bm blk M F) (a : Int) (c : Cap) (h0 : 0 ≤ a) (h1 : a < 18446744073709551616) (hU : Cap.U c) (hE : granE M.keys a = 0) :
    Calls Try.prog 29 #[.pointer (some ⟨m, 0, none⟩), .int .u64 a, capV c] w fun e w' => e = .returned (.int .i64 0) ∧ Lies w' m bm blk ((M.putL a (capB c)).setTag (a / 32) c.tag) F ∧ Kept F w w' := by
  have hp := fun w' (hk : Kept Non w w') => granule_any (h.kept0 hk) a h0 h1
  simp only [granR_ok hE] at hp
  obtain ⟨ha, hk⟩ := granE_ok hE
  have hgF : ¬ F w.heap.size := fun hf => by have := h.flt _ hf; omega
  have HP := Lib.hid hp
  have H := Lib.hid h
  have HG := Lib.hid hgF
  have hsl := fun w' => slice_lh w' (blk (a / 256)) (a % 256) (a % 256 + 32) (by omega) (by omega) (by omega) (by omega)
  rw [show (a % 256 + 32 - a % 256).toNat = 32 by omega] at hsl
  have hs8 := fun w' => slice_at w' (blk (a / 256)) (a % 256).toNat (256 - (a % 256).toNat) 8 (by omega) (by omega) (by omega)
  have hs16 := fun w' => slice_at w' (blk (a / 256)) (a % 256).toNat (256 - (a % 256).toNat) 16 (by omega) (by omega) (by omega)
  have hfit : a % 256 + 32 ≤ 256 := by omega
  have hk31 : (a + 31) / 32 = a / 32 := by omega
  clear hp h hE hgF ha
  unfold capV
  go_enter Try.func29, Try.ntmps29
  go_upto_region 5 with (go_at_call 55; refine (HP.out _ ((Kept.refl Non w).alloc _)).mono ?_; rintro e w' ⟨rfl, rfl⟩)
  go_cut [] (fun wx => ScAt w m bm blk F w.heap.size c (M.rawL a (List.replicate 32 0)) wx)
  case first =>
    have hL := H.out.kept0 ((Kept.refl Non w).alloc (.cells (capC c) 30))
    have hcl := clear_page (hL.page _ hk) (a % 256).toNat (256 - (a % 256).toNat) (by omega)
    have hS : ScAt w m bm blk F w.heap.size c M (w.alloc (.cells (capC c) 30)) := ⟨hL, (Kept.refl F w).alloc _, blk_new _ _⟩
    have HS := Lib.hid (hS.bytes HG.out (Kept.refl _ _) hk (List.replicate 32 0) (fun b hb => by rw [List.eq_of_mem_replicate hb]; omega) (by rw [List.length_replicate]; omega))
    clear hL hS
    unfold capC at hcl
    generalize (List.replicate 32 (0 : Int)).map (Value.int .u8) = Z at hcl HS
    go_wp2_with fail
    go_meet
    exact HS.out
  case rest =>
  obtain ⟨w1, rfl⟩ : ∃ w1 : World, w1 = wc := ⟨_, rfl⟩
  have hbox : w1.cell? ⟨w.heap.size, 0, none⟩ = some (.int .u64 c.base) := by rw [cell_blk hcut.box]; rfl
  have HS := Lib.hid hcut
  clear hcut
  go_upto_region 6 with fail
  go_cut [] (fun wx => ScAt w m bm blk F w.heap.size c ((M.rawL a (List.replicate 32 0)).rawL a (leB c.base 8)) wx)
  case first =>
    have hk' : a / 256 ∈ (M.rawL a (List.replicate 32 0)).keys := by simp only [rawL_keys]; exact hk
    go_wp2_with (go_at_call 56; refine (little_ok c.base 8 _ hU.1.1 hU.1.2 (by omega) (by omega)).mono ?_; rintro e w' ⟨v, rfl, hown, hK⟩; obtain ⟨-, g, cap, rfl, hg, hgl, -, hsrc⟩ := own_bytes hown (by omega); have HK := Lib.hid hK; have hcp := copy_page ((HS.out.lies.kept0 HK.out).page _ hk') (a % 256).toNat g 0 32 (256 - (a % 256).toNat) 8 cap (leB c.base 8) 3 (by rw [length_leB]; rfl) (by rw [length_leB]; omega) hsrc; rw [length_leB] at hcp; clear hown hK hsrc)
    all_goals
      try go_wp2_with fail
      go_meet
      have hB := HS.out.bytes HG.out HK.out (a := a) (by simp only [rawL_keys]; rw [show a / 256 = a / 256 by omega]; exact hk) (leB c.base 8) (leB_range _ _) (by rw [length_leB]; omega)
      exact hB
  case rest =>
  obtain ⟨w2, rfl⟩ : ∃ w2 : World, w2 = wc := ⟨_, rfl⟩
  have hbox : w2.cell? ⟨w.heap.size, 1, none⟩ = some (.int .u64 c.top) := by rw [cell_blk hcut.box]; rfl
  have HS := Lib.hid hcut
  clear hcut
  go_upto_region 7 with fail
  go_cut [] (fun wx => ScAt w m bm blk F w.heap.size c (((M.rawL a (List.replicate 32 0)).rawL a (leB c.base 8)).rawL (a + 8) (leB c.top 8)) wx)
  case first =>
    have hk' : a / 256 ∈ ((M.rawL a (List.replicate 32 0)).rawL a (leB c.base 8)).keys := by simp only [rawL_keys]; exact hk
    go_region_with (go_at_call 56; refine (little_ok c.top 8 _ hU.2.1.1 hU.2.1.2 (by omega) (by omega)).mono ?_; rintro e w' ⟨v, rfl, hown, hK⟩; obtain ⟨-, g, cap, rfl, hg, hgl, -, hsrc⟩ := own_bytes hown (by omega); have HK := Lib.hid hK; have hcp := copy_page ((HS.out.lies.kept0 ((Kept.refl Non w2).drew.trans HK.out)).page _ hk') ((a % 256).toNat + 8) g 0 24 (256 - (a % 256).toNat - 8) 8 cap (leB c.top 8) 3 (by rw [length_leB]; rfl) (by rw [length_leB]; omega) hsrc; rw [length_leB] at hcp; clear hown hK hsrc)
    all_goals
      try go_wp2_with fail
      go_meet
      have hB := HS.out.bytes HG.out ((Kept.refl Non w2).drew.trans HK.out) (a := (a + 8)) (by simp only [rawL_keys]; rw [show (a + 8) / 256 = a / 256 by omega]; exact hk) (leB c.top 8) (leB_range _ _) (by rw [length_leB]; omega)
      rw [show (a + 8) / 256 = a / 256 by omega, show ((a + 8) % 256).toNat = (a % 256).toNat + 8 by omega] at hB
      exact hB
  case rest =>
  obtain ⟨w3, rfl⟩ : ∃ w3 : World, w3 = wc := ⟨_, rfl⟩
  have hbox : w3.cell? ⟨w.heap.size, 2, none⟩ = some (.int .u64 c.at_) := by rw [cell_blk hcut.box]; rfl
  have HS := Lib.hid hcut
  clear hcut
  go_upto_region 8 with fail
  go_cut [] (fun wx => ScAt w m bm blk F w.heap.size c ((((M.rawL a (List.replicate 32 0)).rawL a (leB c.base 8)).rawL (a + 8) (leB c.top 8)).rawL (a + 16) (leB c.at_ 8)) wx)
  case first =>
    have hk' : a / 256 ∈ (((M.rawL a (List.replicate 32 0)).rawL a (leB c.base 8)).rawL (a + 8) (leB c.top 8)).keys := by simp only [rawL_keys]; exact hk
    go_region_with (go_at_call 56; refine (little_ok c.at_ 8 _ hU.2.2.1 hU.2.2.2 (by omega) (by omega)).mono ?_; rintro e w' ⟨v, rfl, hown, hK⟩; obtain ⟨-, g, cap, rfl, hg, hgl, -, hsrc⟩ := own_bytes hown (by omega); have HK := Lib.hid hK; have hcp := copy_page ((HS.out.lies.kept0 ((Kept.refl Non w3).drew.trans HK.out)).page _ hk') ((a % 256).toNat + 16) g 0 16 (256 - (a % 256).toNat - 16) 8 cap (leB c.at_ 8) 3 (by rw [length_leB]; rfl) (by rw [length_leB]; omega) hsrc; rw [length_leB] at hcp; clear hown hK hsrc)
    all_goals
      try go_wp2_with fail
      go_meet
      have hB := HS.out.bytes HG.out ((Kept.refl Non w3).drew.trans HK.out) (a := (a + 16)) (by simp only [rawL_keys]; rw [show (a + 16) / 256 = a / 256 by omega]; exact hk) (leB c.at_ 8) (leB_range _ _) (by rw [length_leB]; omega)
      rw [show (a + 16) / 256 = a / 256 by omega, show ((a + 16) % 256).toNat = (a % 256).toNat + 16 by omega] at hB
      exact hB
  case rest =>
  obtain ⟨w4, rfl⟩ : ∃ w4 : World, w4 = wc := ⟨_, rfl⟩
  have hb3 : w4.cell? ⟨w.heap.size, 3, none⟩ = some (.int .i64 c.perms) := by rw [cell_blk hcut.box]; rfl
  have hb4 : w4.cell? ⟨w.heap.size, 4, none⟩ = some (.int .i64 c.typ) := by rw [cell_blk hcut.box]; rfl
  have HS := Lib.hid hcut
  clear hcut
  have hk' : a / 256 ∈ ((((M.rawL a (List.replicate 32 0)).rawL a (leB c.base 8)).rawL (a + 8) (leB c.top 8)).rawL (a + 16) (leB c.at_ 8)).keys := by simp only [rawL_keys]; exact hk
  have hpg := HS.out.lies.page _ hk'
  have hc24 := hpg.byte (i := (a % 256).toNat + 24) (by omega)
  have hc25 := hpg.byte (i := (a % 256).toNat + 25) (by omega)
  have hf24 := hpg.free ((a % 256).toNat + 24)
  have hf25 := hpg.free ((a % 256).toNat + 25)
  clear hpg hk'
  go_upto_region 9 with fail
  go_cut [] (fun wx => ScAt w m bm blk F w.heap.size c ((((M.rawL a (List.replicate 32 0)).rawL a (leB c.base 8)).rawL (a + 8) (leB c.top 8)).rawL (a + 16) (leB c.at_ 8) |>.raw1 (a + 24) (c.perms % 256) |>.raw1 (a + 25) (c.typ % 256)) wx)
  case first =>
    go_region
    all_goals
      go_wp2_with fail
      go_meet
      have h1 := HS.out.lies.write1 (a := a + 24) (by simp only [rawL_keys]; rw [show (a + 24) / 256 = a / 256 by omega]; exact hk) (c.perms % 256) (by omega) (by omega)
      rw [show (a + 24) / 256 = a / 256 by omega, show ((a + 24) % 256).toNat = (a % 256).toNat + 24 by omega] at h1
      have h2 := h1.write1 (a := a + 25) (by simp only [PM.raw1, rawL_keys]; rw [show (a + 25) / 256 = a / 256 by omega]; exact hk) (c.typ % 256) (by omega) (by omega)
      rw [show (a + 25) / 256 = a / 256 by omega, show ((a + 25) % 256).toNat = (a % 256).toNat + 25 by omega] at h2
      exact HS.out.step HG.out (h2.kept0 (Kept.refl Non _).drew) ((((Kept.refl F w4).setCell (p := ⟨_, _, none⟩) (.inl (H.out.fpg _ hk)) _).setCell (p := ⟨_, _, none⟩) (.inl (H.out.fpg _ hk)) _).drew)
  case rest =>
  obtain ⟨w5, rfl⟩ : ∃ w5 : World, w5 = wc := ⟨_, rfl⟩
  rw [granule_parts] at hcut
  have hb5 : w5.cell? ⟨w.heap.size, 5, none⟩ = some (.bool c.tag) := by rw [cell_blk hcut.box]; rfl
  have hk' : a / 256 ∈ (M.rawL a (capB c)).keys := by simp only [rawL_keys]; exact hk
  have hpg := hcut.lies.page _ hk'
  have hct := hpg.tag (j := (a % 256 / 32).toNat) (by omega)
  have hft := hpg.free (256 + (a % 256 / 32).toNat)
  have HS2 := Lib.hid hcut
  clear hpg hk' hcut
  go_upto_region 10 with fail
  go_region
  all_goals
    go_wp2_with fail
    go_ret
    have h1 := HS2.out.lies.writeT (a := a) (by simp only [rawL_keys]; exact hk) c.tag
    rw [rawL_setTag _ _ _ _ (fun e => by have := congrArg List.length e; rw [capB_length] at this; cases this) (by rw [capB_length]; omega)] at h1
    exact ⟨rfl, h1.kept0 (Kept.refl Non _).drew, (HS2.out.kept.setCell (p := ⟨_, _, none⟩) (.inl (H.out.fpg _ hk)) _).drew⟩

/-- 'StoreCap'. -/
theorem storecap_any {w : World} {m : Nat} {M : PM} {F : Nat → Prop} (h : MemAt w m M F) (a : Int) (c : Cap) (h0 : 0 ≤ a) (h1 : a < 18446744073709551616) (hU : Cap.U c) :
    Calls Try.prog 29 #[.pointer (some ⟨m, 0, none⟩), .int .u64 a, capV c] w (DoesF w m F (.int .i64 (granE M.keys a)) (M.storeCap a c)) := by
  obtain ⟨bm, blk, h⟩ := h
  by_cases hE : granE M.keys a = 0
  · refine (storecap_ok h a c h0 h1 hU hE).mono (fun e w' ⟨he, hl, hk⟩ => ⟨by rw [hE]; exact he, ⟨bm, blk, ?_⟩, hk⟩)
    simpa [PM.storeCap, hE] using hl
  · refine (storecap_bad h a c h0 h1 hE).mono (fun e w' ⟨he, hk⟩ => ⟨he, ⟨bm, blk, ?_⟩, hk.mono (fun _ h => h.elim)⟩)
    have := h.kept0 hk
    simpa [PM.storeCap, hE] using this

end Go.Proofs.Ytkmbmbpjppjdjaa
