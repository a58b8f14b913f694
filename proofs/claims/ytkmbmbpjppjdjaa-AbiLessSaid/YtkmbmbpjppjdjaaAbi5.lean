/- Walks: texts are laid into memory. -/
import Derived.Test.YtkmbmbpjppjdjaaAbi4
import Derived.Test.YtkmbmbpjppjdjaaApp
import Derived.Deep.RegionLaw
namespace Go.Proofs.Ytkmbmbpjppjdjaa
open Go.RowKit Go.Maps TmP
set_option linter.unusedSimpArgs false
set_option linter.unusedVariables false
set_option maxRecDepth 100000

namespace TmP
/-- Texts are laid, one behind the other, each with a byte 0. -/
def PM.lay : PM → Int → List ByteArray → PM
  | M, _, [] => M
  | M, a, s :: r => (M.put a (bsI s ++ [0])).lay (a + (s.size + 1)) r
def layC : Int → List ByteArray → List Cap
  | _, [] => []
  | a, s :: r => ofC a (s.size + 1) 1 :: layC (a + (s.size + 1)) r
theorem PM.lay_snoc : ∀ (l : List ByteArray) (M : PM) (a : Int) (s : ByteArray), M.lay a (l ++ [s]) = (M.lay a l).put (a + sizeL l) (bsI s ++ [0])
  | [], M, a, s => by simp [PM.lay, sizeL_nil]
  | x :: r, M, a, s => by
    show (M.put a (bsI x ++ [0])).lay (a + (x.size + 1)) (r ++ [s]) = _
    rw [lay_snoc r, sizeL_cons]
    simp only [PM.lay]
    congr 1
    omega
theorem layC_snoc : ∀ (l : List ByteArray) (a : Int) (s : ByteArray), layC a (l ++ [s]) = layC a l ++ [ofC (a + sizeL l) (s.size + 1) 1]
  | [], a, s => by simp [layC, sizeL_nil]
  | x :: r, a, s => by
    show ofC a (x.size + 1) 1 :: layC (a + (x.size + 1)) (r ++ [s]) = _
    rw [layC_snoc r, sizeL_cons]
    simp only [layC, List.cons_append]
    congr 3
    congr 1
    omega
theorem layC_length : ∀ (l : List ByteArray) (a : Int), (layC a l).length = l.length
  | [], _ => rfl
  | x :: r, a => by simp [layC, layC_length r]
end TmP

/-- A layer's variable. -/
def LayAt (w : World) (b m : Nat) (a : Int) : Prop := w.heap[b]? = some (.cells #[.pointer (some ⟨m, 0, none⟩), .int .u64 a] 86 (0, 0))

theorem SeqAt.mapV {α : Type} {f : α → Value} {w : World} {v : Value} {l : List α} {G : Nat → Prop} (h : SeqAt (fun b => [b]) 1 w v (l.map f) G) : SeqAt (fun b => [f b]) 1 w v l G := by
  obtain ⟨ao, cap, hv, hc, h⟩ := h
  refine ⟨ao, cap, by simpa using hv, by simpa using hc, ?_⟩
  rcases h with h | ⟨g, off, ha, hg, hlt, hcell⟩
  · exact .inl (by simpa using h)
  · exact .inr ⟨g, off, ha, hg, hlt, fun i x hx j u hu => hcell i (f x) (by simp [hx]) j u (by simpa using hu)⟩

theorem bytesRow_take (s : ByteArray) (cap : Nat) : (bytesRow s cap).toList.take s.size = (bsI s).map (Value.int .u8) := by
  simp only [bytesRow, Array.toList_append, Array.toList_map]
  rw [List.take_append_of_le_length (by simp)]
  rw [List.take_of_length_le (by simp)]
  simp [bsI]
theorem bytesRow_size (s : ByteArray) (cap : Nat) (h : s.size ≤ cap) : (bytesRow s cap).size = cap := by
  simp [bytesRow]
  omega

theorem infoCap : (Try.prog.info? 30).map (fun i => (i.zero, i.size, i.bytes)) = some (some (.agg #[.int .u64 0, .int .u64 0, .int .u64 0, .int .i64 0, .int .i64 0, .bool false]), 6, 48) := by kernel_rfl

set_option maxHeartbeats 1600000 in
theorem texts_any {w : World} {m : Nat} {M : PM} {F G : Nat → Prop} (h : MemAt w m M F) (lb : Nat) (a : Int) (v : Value) (l : List ByteArray) (hl : LayAt w lb m a) (hF : ¬ F lb)
    (hv : SeqAt strE 1 w v l G) (hG : ∀ k, G k → ¬ F k ∧ k ≠ lb) (h0 : 0 ≤ a) (hs : a + sizeL l ≤ 16777216) (hn : l.length ≤ 1000) :
    Calls Try.prog 45 #[.pointer (some ⟨lb, 0, none⟩), v] w fun e w' => ∃ v', e = .returned v' ∧ w'.ownsRow w.heap.size 30 6 v' l.length ((layC a l).flatMap capE) ∧ MemAt w' m (M.lay a l) F ∧ LayAt w' lb m (a + sizeL l) ∧ Kept (fun k => F k ∨ k = lb) w w' := by
  obtain ⟨ao, cap, rfl, hcap, hq⟩ := hv
  have HQ := Lib.hid hq
  have H := Lib.hid h
  have HL := Lib.hid hl
  have hlt : lb < w.heap.size := lt_blk hl
  clear hq h hl
  go_enter Try.func45, Try.ntmps45
  go_wp2
  go_loopw [5, 7, 8, 11] (fun v _ _ i wr => ∃ k : Nat, k ≤ l.length ∧ i = .int .i64 k ∧ wr.ownsRow w.heap.size 30 6 v k ((layC a (l.take k)).flatMap capE) ∧ MemAt wr m (M.lay a (l.take k)) F ∧ LayAt wr lb m (a + sizeL (l.take k)) ∧ Kept (fun k => F k ∨ k = lb) w wr) (fun _ _ _ i _ => l.length - (intOf i).toNat)
  case atStart => exact ⟨0, Nat.zero_le _, rfl, World.ownsRow_nil _ _ _ _, H.out, by simpa [sizeL_nil] using HL.out, Kept.refl _ _⟩
  case round =>
    obtain ⟨k, hk, rfl, hO, hM, hA, hK⟩ := hrel
    have HO := Lib.hid hO
    have HM := Lib.hid hM
    have HA := Lib.hid hA
    have HK := Lib.hid hK
    clear hO hM hA hK
    by_cases hlt1 : k < l.length
    · obtain ⟨g, off, rfl, hGg, hc⟩ : ∃ g off, ao = some ⟨g, off, none⟩ ∧ G g ∧ w.cell? ⟨g, off + k, none⟩ = some (.string l[k]) := by
        rcases HQ.out with h | ⟨g, off, h1, h2, _, h4⟩
        · subst h; simp at hlt1
        · exact ⟨g, off, h1, h2, by simpa using h4 k l[k] (List.getElem?_eq_getElem hlt1) 0 _ rfl⟩
      have hcell := HK.out.cell hc (fun hh => hh.elim (hG g hGg).1 (hG g hGg).2)
      have ht := sizeL_succ l k hlt1
      have ht1 := sizeL_take l (k + 1)
      have ht0 := sizeL_nonneg (l.take k)
      have e1 : IntKind.i64.wrap ((l[k].size : Int) + 1) = (l[k].size : Int) + 1 := IntWalk.i64_in _ (by omega)
      have e2 : IntKind.u64.wrap ((l[k].size : Int) + 1) = (l[k].size : Int) + 1 := IntWalk.u64_in _ (by omega)
      obtain ⟨i0, hi, hz0, hz1, hz2⟩ := info_parts infoU8
      have hcv := fun w => run_bytes_of_string (P := Try.prog) w 9 63 5 l[k] Try.underlying9 Try.underlying63 Try.underlying5
      have hS : ∀ w', Kept F wr w' → w'.cell? ⟨lb, 0, none⟩ = some (.pointer (some ⟨m, 0, none⟩)) ∧ w'.cell? ⟨lb, 1, none⟩ = some (.int .u64 (a + sizeL (l.take k))) ∧ Kept F wr w' := fun w' hk' => by
        have hb : w'.heap[lb]? = _ := hk'.blk HA.out hF
        exact ⟨cell_blk hb 0, cell_blk hb 1, hk'⟩
      have HS := Lib.hid hS
      have hput : ∀ ao' cap' w', Kept Non wr w' → ∀ G', (∀ x, G' x → ¬ F x) → SeqAt (fun b => [Value.int .u8 b]) 1 w' (.slice ao' (l[k].size + 1) cap') (bsI l[k] ++ [0]) G' → Calls Try.prog 36 #[.pointer (some ⟨m, 0, none⟩), .int .u64 (a + sizeL (l.take k)), .slice ao' (l[k].size + 1) cap'] w' (DoesF w' m F (.int .i64 ((M.lay a (l.take k)).putE (a + sizeL (l.take k)) (bsI l[k] ++ [0]))) ((M.lay a (l.take k)).put (a + sizeL (l.take k)) (bsI l[k] ++ [0]))) :=
        fun ao' cap' w' hk' G' hG' hq' => put_any (HM.out.kept0 hk') _ _ _ (by omega) (by omega) (by simp [bsI_length]; omega) hq' hG' (fun b hb => by
          rcases List.mem_append.1 hb with hb | hb
          · exact bsI_range _ b hb
          · simp at hb; omega)
      have HP := Lib.hid hput
      clear hS hput
      go_upto_region 6 with (fail)
      go_cut [11] from 11 to 49 (fun i wx => i = .int .i64 k ∧ MemAt wx m ((M.lay a (l.take k)).put (a + sizeL (l.take k)) (bsI l[k] ++ [0])) F ∧ Kept F wr wx)
      case first =>
        obtain ⟨c0, c1, _⟩ := HS.out wr (Kept.refl _ _)
        have ca0 : ∀ o, (wr.alloc o).cell? ⟨lb, 0, none⟩ = some (.pointer (some ⟨m, 0, none⟩)) := fun o => (HS.out _ ((Kept.refl _ _).alloc o)).1
        have ca1 : ∀ o, (wr.alloc o).cell? ⟨lb, 1, none⟩ = some (.int .u64 (a + sizeL (l.take k))) := fun o => (HS.out _ ((Kept.refl _ _).alloc o)).2.1
        have cb0 : ∀ o o', ((wr.alloc o).alloc o').cell? ⟨lb, 0, none⟩ = some (.pointer (some ⟨m, 0, none⟩)) := fun o o' => (HS.out _ (((Kept.refl _ _).alloc o).alloc o')).1
        have cb1 : ∀ o o', ((wr.alloc o).alloc o').cell? ⟨lb, 1, none⟩ = some (.int .u64 (a + sizeL (l.take k))) := fun o o' => (HS.out _ (((Kept.refl _ _).alloc o).alloc o')).2.1
        go_region_law (
          (first
            | (refine step_push1 rfl _ _ _ rfl 5 i0 _ 1 Try.underlying63 hi hz0 hz1 hz2 rfl _ _ _ rfl _ rfl _ _ (by first | exact blk_alloc (blk_new _ _) _ | exact blk_new _ _ | exact blk_new2 _ _ _) (Nat.le_refl _) (Nat.le_of_eq (bytesRow_size _ _ (grownCap_ge _ _ _ _)).symm) (grownCap_ge _ _ _ _) (Value.int .u8 0) (by first | exact cell_blk (blk_new2 _ _ _) 0 | exact cell_blk (blk_alloc (blk_new _ _) _) 0) rfl (by omega) (by omega) ?_
               intro ao' cap' w2 hq hk2
               have hq2 := hq.mono (G' := fun x => wr.heap.size ≤ x) (fun x _ hx => by simp at hx ⊢; omega)
               rw [bytesRow_take, ← List.map_singleton (f := Value.int .u8) (a := 0), ← List.map_append] at hq2
               have HQ2 := Lib.hid hq2.mapV
               have HK2 := Lib.hid (Kept.then_ (F := Non) (w := wr) (by repeat (first | exact Kept.refl _ _ | apply Kept.drew | apply Kept.alloc)) hk2 (fun k hk => .inr (by first | omega | (simp at hk ⊢; omega))))
               obtain ⟨d0, d1, HK2F⟩ := HS.out _ (HK2.out.mono (G := F) (fun _ h => h.elim))
               clear hq hk2 hq2)
            | (go_simp; go_at_call 36; refine (HP.out _ _ _ HK2.out _ (fun x hx hf => absurd (HM.out.lt x hf) (by omega)) HQ2.out).mono ?_
               rintro e w3 ⟨rfl, hm, hk3⟩
               have HM3 := Lib.hid hm
               have HK3 := HK2F.trans hk3
               clear hm hk3)))
        all_goals try go_wp2_with fail
        all_goals go_meet
        all_goals exact ⟨rfl, HM3.out, HK3⟩
      case rest =>
      obtain ⟨rfl, hM2, hK2⟩ := hcut
      have hA2 : LayAt wc lb m (a + sizeL (l.take k)) := hK2.blk HA.out hF
      have HO2 := Lib.hid (ownsRow_kept HO.out hK2 (fun x hx => H.out.lt x hx))
      have HKW := Lib.hid (HK.out.trans (hK2.mono (G := fun k => F k ∨ k = lb) (fun _ h => .inl h)))
      have HA2 := Lib.hid hA2
      have HM2 := Lib.hid hM2
      have hof := fun w' => of_any' (a + sizeL (l.take k)) ((l[k].size : Int) + 1) 1 (by omega) (by omega) (by omega) w' (by kernel_rfl)
      have HOF := Lib.hid hof
      have d0 := cell_blk hA2 0
      have d1 := cell_blk hA2 1
      simp only [List.getElem?_toArray, List.getElem?_cons_zero, List.getElem?_cons_succ] at d0 d1
      have hwl := HKW.out.size
      obtain ⟨i1, hi1, hz10, hz11, hz12⟩ := info_parts infoCap
      have e3 : IntKind.u64.wrap (a + sizeL (l.take k) + ((l[k].size : Int) + 1)) = a + sizeL (l.take k) + ((l[k].size : Int) + 1) := IntWalk.u64_in _ (by omega)
      clear hA2 hM2 hK2 hof HM HA HK HO
      simp only [capV] at HOF
      go_wp2_with (first
        | (go_at_call 49; refine (HOF.out _).mono ?_; rintro e w1 ⟨rfl, hk1⟩; have HK1 := Lib.hid hk1; clear hk1)
        | (at_builtin; refine wpList_push2 w.heap.size w1 (capC (ofC (a + sizeL (l.take k)) ((l[k].size : Int) + 1) 1)) (Nat.le_trans hwl HK1.out.size) rfl _ _ 40 rfl 30 _ _ 6 48 Try.underlying40 hi1 hz10 hz11 hz12 rfl (by omega) _ k _ (ownsRow_kept0 HO2.out HK1.out) rfl rfl rfl (fun u hu => by simp [capC] at hu; rcases hu with h | h | h | h | h | h <;> (rw [h]; rfl)) (by unfold maxLen; omega) (by omega) ?_; intro v1 w2 ho hk2 _; have hk3 := (HK1.out.mono (G := fun k => w.heap.size ≤ k) (fun _ h => h.elim)).trans hk2; have HO3 := Lib.hid ho; have HK3 := Lib.hid hk3; have hA3 : LayAt w2 lb m (a + sizeL (l.take k)) := hk3.blk HA2.out (by omega); have f0 := cell_blk hA3 0; have f1 := cell_blk hA3 1; have f2 := free_blk hA3 1; have HA3 := Lib.hid hA3; simp only [List.getElem?_toArray, List.getElem?_cons_zero, List.getElem?_cons_succ] at f0 f1; clear ho hk2 hk3 hA3))
      have htk : l.take (k + 1) = l.take k ++ [l[k]] := List.take_succ_eq_append_getElem hlt1
      have hval : a + sizeL (l.take k) + ((l[k].size : Int) + 1) = a + sizeL (l.take (k + 1)) := by omega
      have hks : Kept (fun k => k = lb) w2 (w2.setCell ⟨lb, 1, none⟩ (.int .u64 (a + sizeL (l.take k) + ((l[k].size : Int) + 1)))) := (Kept.refl (fun k => k = lb) w2).setCell (p := ⟨lb, 1, none⟩) (.inl rfl) _
      refine ⟨⟨k + 1, by omega, by go_num, ?_, ?_, ?_, ?_⟩, by simp [intOf]; omega⟩
      · have h1 := ownsRow_kept HO3.out hks (fun x hx => by rw [hx]; exact hlt)
        rw [htk, layC_snoc, List.flatMap_append]
        simpa [capE, capC] using h1
      · have h1 := (HM2.out.kept HK3.out (fun x hx => by have := H.out.lt x hx; omega)).kept hks (fun x hx e => hF (e ▸ hx))
        rw [htk, PM.lay_snoc]
        exact h1
      · have h1 := blk_setCell HA3.out 1 (.int .u64 (a + sizeL (l.take k) + ((l[k].size : Int) + 1)))
        rw [hval] at h1 ⊢
        exact h1
      · exact (HKW.out.then_ HK3.out (fun x hx => .inr hx)).setCell (p := ⟨lb, 1, none⟩) (.inl (.inr rfl)) _
    · obtain rfl : k = l.length := by omega
      rw [List.take_length] at HO HM HA
      go_wp2
      go_ret
      exact ⟨_, rfl, HO.out, HM.out, HA.out, HK.out⟩

end Go.Proofs.Ytkmbmbpjppjdjaa
