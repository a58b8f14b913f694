/- Walks: the chapter's examples ('awake' of law 19). -/
import Derived.Test.YtkmbmbpjppjdjaaAbi9
namespace Go.Proofs.Ytkmbmbpjppjdjaa
open Go.RowKit Go.Maps TmP
set_option linter.unusedSimpArgs false
set_option linter.unusedVariables false
set_option maxRecDepth 100000

namespace TmP
def abS : ByteArray := { data := #[97, 98] }
def awM : PM := (PM.new 4).buildM 4 1 [abS] [] []
theorem aw_right : rightB [abS] [] [] = true := by decide +kernel
theorem aw_need : needN [abS] [] 0 = 160 := by decide +kernel
theorem aw_E : buildE (PM.new 4) 4 1 [abS] [] [] = 0 := by decide +kernel
theorem aw_bytes : awM.bytes 1024 3 = [97, 98, 0] := by decide +kernel
theorem aw_cap : awM.loadCap 1056 = ⟨1024, 1027, 1024, 1, -1, true⟩ := by decide +kernel
theorem aw_gran : granE awM.keys 1056 = 0 := by decide +kernel
end TmP
theorem aw_V : buildV (PM.new 4) 4 1 [abS] [] [] = startV ⟨1184, 1280, 1280, 27, -1, true⟩ ⟨1056, 1088, 1056, 9, -1, true⟩ ⟨1120, 1120, 1120, 9, -1, true⟩ ⟨1152, 1152, 1152, 9, -1, true⟩ := by
  unfold buildV
  rw [if_pos aw_E]
  have h1 : stackC 4 1 [abS] [] 0 = ⟨1184, 1280, 1280, 27, -1, true⟩ := by decide +kernel
  have h2 : ofC (at1 4 [abS] []) 32 9 = ⟨1056, 1088, 1056, 9, -1, true⟩ := by decide +kernel
  have h3 : ofC (at2 4 [abS] []) 0 9 = ⟨1120, 1120, 1120, 9, -1, true⟩ := by decide +kernel
  have h4 : ofC (at3 4 [abS] []) 0 9 = ⟨1152, 1152, 1152, 9, -1, true⟩ := by decide +kernel
  show startV (stackC 4 1 [abS] [] 0) (ofC (at1 4 [abS] []) 32 9) (ofC (at2 4 [abS] []) 0 9) (ofC (at3 4 [abS] []) 0 9) = _
  rw [h1, h2, h3, h4]

theorem own_block {w : World} {g t : Nat} {cs : Array Value} (h : w.heap[g]? = some (.cells cs t (0, 0))) (n size : Nat) (hs : cs.size = n * size) (hn : n ≤ maxLen) : w.ownsRow g t size (.slice (some ⟨g, 0, none⟩) n n) n cs.toList :=
  ⟨by simpa using hs, .inr ⟨g, n, cs, rfl, Nat.le_refl _, h, Nat.le_refl _, hn, hs, by rw [List.take_of_length_le]; simp [hs]⟩⟩

theorem start_cells {w : World} {b : Nat} {s a e x : Cap} {T : TypeId} {fr : Nat × Nat} (h : w.heap[b]? = some (.cells (startL s a e x).toArray T fr)) :
    (w.cell? ⟨b, 0, none⟩ = some (.int .u64 s.base) ∧ w.cell? ⟨b, 1, none⟩ = some (.int .u64 s.top) ∧ w.cell? ⟨b, 2, none⟩ = some (.int .u64 s.at_) ∧ w.cell? ⟨b, 3, none⟩ = some (.int .i64 s.perms) ∧ w.cell? ⟨b, 4, none⟩ = some (.int .i64 s.typ) ∧ w.cell? ⟨b, 5, none⟩ = some (.bool s.tag)) ∧
    (w.cell? ⟨b, 6, none⟩ = some (.int .u64 a.base) ∧ w.cell? ⟨b, 7, none⟩ = some (.int .u64 a.top) ∧ w.cell? ⟨b, 8, none⟩ = some (.int .u64 a.at_) ∧ w.cell? ⟨b, 9, none⟩ = some (.int .i64 a.perms) ∧ w.cell? ⟨b, 10, none⟩ = some (.int .i64 a.typ) ∧ w.cell? ⟨b, 11, none⟩ = some (.bool a.tag)) ∧
    (w.cell? ⟨b, 12, none⟩ = some (.int .u64 e.base) ∧ w.cell? ⟨b, 13, none⟩ = some (.int .u64 e.top) ∧ w.cell? ⟨b, 14, none⟩ = some (.int .u64 e.at_) ∧ w.cell? ⟨b, 15, none⟩ = some (.int .i64 e.perms) ∧ w.cell? ⟨b, 16, none⟩ = some (.int .i64 e.typ) ∧ w.cell? ⟨b, 17, none⟩ = some (.bool e.tag)) ∧
    (w.cell? ⟨b, 18, none⟩ = some (.int .u64 x.base) ∧ w.cell? ⟨b, 19, none⟩ = some (.int .u64 x.top) ∧ w.cell? ⟨b, 20, none⟩ = some (.int .u64 x.at_) ∧ w.cell? ⟨b, 21, none⟩ = some (.int .i64 x.perms) ∧ w.cell? ⟨b, 22, none⟩ = some (.int .i64 x.typ) ∧ w.cell? ⟨b, 23, none⟩ = some (.bool x.tag)) := by
  have c : ∀ j, w.cell? ⟨b, j, none⟩ = (startL s a e x).toArray[j]? := fun j => cell_blk h j
  exact ⟨⟨c 0, c 1, c 2, c 3, c 4, c 5⟩, ⟨c 6, c 7, c 8, c 9, c 10, c 11⟩, ⟨c 12, c 13, c 14, c 15, c 16, c 17⟩, ⟨c 18, c 19, c 20, c 21, c 22, c 23⟩⟩

theorem awake_any (w : World) : Calls Try.prog 15 #[] w fun e w' => e = .returned (.bool true) ∧ Kept Non w w' := by
  have H0 := Lib.hid (new_ok w 4 (by omega) (by omega))
  go_enter Try.func15, Try.ntmps15
  go_wp2_with (go_at_call 16; refine H0.out.mono ?_; rintro e w1 ⟨rfl, hm, hk⟩; have HM := Lib.hid hm; have HK := Lib.hid hk; clear hm hk)
  have hlt1 : w.heap.size + 1 < w1.heap.size := HM.out.lt _ (.inr rfl)
  refine (build_any (Ga := fun k => w1.heap.size ≤ k) (Gb := fun _ => False) (Gc := fun _ => False) (w.heap.size + 1) 4 1 _ _ _ [abS] [] [] _ (HM.out.kept0 ((Kept.refl _ _).alloc _)) (seq_of_own (l := [abS]) (own_block (blk_new w1 _) 1 1 rfl (by unfold maxLen; omega)) rfl (fun _ _ => rfl)) (SeqAt.nil _ _ _ _) (SeqAt.nil _ _ _ _) (.inr ⟨_, _, _, rfl⟩) (.inl rfl) (.inl rfl)
    (fun k hk hf => by have := HM.out.lt k hf; omega) (fun _ h => h.elim) (fun _ h => h.elim) (by simp) (by simp) (by simp) (fun x hx => by simp at hx; subst hx; decide) (fun x hx => by simp at hx) (fun x hx => by simp at hx) (by omega) (by omega) (by omega) (by omega)).mono ?_
  rw [aw_V, aw_E]
  rintro e w2 ⟨rfl, F2, hm, hk, hF⟩
  have HM2 := Lib.hid (show MemAt w2 (w.heap.size + 1) awM F2 from hm)
  have HK2 := Lib.hid ((HK.out.alloc (.cells #[.string { data := #[97, 98] }] 9)).then_ hk (fun k hk => .inr (by rcases hk with rfl | rfl <;> omega)))
  clear hm hk hF
  generalize hSL : startL ⟨1184, 1280, 1280, 27, -1, true⟩ ⟨1056, 1088, 1056, 9, -1, true⟩ ⟨1120, 1120, 1120, 9, -1, true⟩ ⟨1152, 1152, 1152, 9, -1, true⟩ = SL
  have HSL := Lib.hid hSL
  clear hSL
  have h24 : SL.length = 24 := by rw [← HSL.out]; rfl
  have H24 := Lib.hid h24
  clear h24
  have hby := fun w' (hk : Kept Non w2 w') => bytes_any (HM2.out.kept0 hk) 1024 3 (by omega) (by omega)
  have hlc := fun w' (hk : Kept Non w2 w') => loadcap_any (HM2.out.kept0 hk) 1056 (by omega) (by omega)
  rw [aw_bytes] at hby
  rw [aw_cap, aw_gran] at hlc
  simp only [capV] at hlc
  have HBY := Lib.hid hby
  have HLC := Lib.hid hlc
  clear hby hlc
  go_wp2_with (first
    | (refine wpList_store_row rfl 32 (.tmp 3) (.tmp 24) rfl w2.heap.size SL.toArray rfl ?sa 32 _ (blk_new w2 _) ?sb ?sc ?sd ?_)
    | (go_at_call 33; refine (HBY.out _ (((Kept.refl _ _).alloc _).setRow (.inr (Nat.le_refl _)) _)).mono ?_; rintro e w3 ⟨v3, rfl, ho, hk⟩; have HO3 := Lib.hid ho; have HK3 := Lib.hid hk; clear ho hk))
  case sa => rw [← HSL.out]; rfl
  case sb => rw [List.size_toArray, H24.out]; kernel_rfl
  case sc => simp [H24.out]
  case sd => rw [← HSL.out]; exact oneStart _ _ _ _
  have hkb := ((Kept.refl Non w2).alloc (.cells #[.int .u64 0, .int .u64 0, .int .u64 0, .int .i64 0, .int .i64 0, .bool false, .int .u64 0, .int .u64 0, .int .u64 0, .int .i64 0, .int .i64 0, .bool false, .int .u64 0, .int .u64 0, .int .u64 0, .int .i64 0, .int .i64 0, .bool false, .int .u64 0, .int .u64 0, .int .u64 0, .int .i64 0, .int .i64 0, .bool false] 32)).setRow (g := w2.heap.size) (.inr (Nat.le_refl _)) SL.toArray
  have HB3 := Lib.hid (HK3.out.blk (setRow_heap _ w2.heap.size _ SL.toArray 32 (0, 0) (blk_new w2 _)) (fun h => h))
  have HKS3 := Lib.hid (hkb.trans HK3.out)
  clear hkb
  refine (HLC.out _ HKS3.out).mono ?_
  rintro e w4 ⟨rfl, hk⟩
  have HK4 := Lib.hid hk
  clear hk
  go_wp2_with fail
  refine (need_any (Ga := fun k => w4.heap.size ≤ k) (Gb := fun _ => False) _ _ _ [abS] [] 0 _ (seq_of_own (l := [abS]) (ownsRow_mono (own_block (blk_new2 w4 _ _) 1 1 rfl (by unfold maxLen; omega)) (by omega)) rfl (fun _ _ => rfl)) (SeqAt.nil _ _ _ _) (.inr ⟨_, _, _, rfl⟩) (.inl rfl) (by simp) (by simp) (by omega) (by decide +kernel) ⟨_, _, rfl⟩).mono ?_
  rw [aw_need]
  rintro e w5 ⟨rfl, hk⟩
  have HK5 := Lib.hid hk
  clear hk
  go_wp2_with fail
  have hq3 : SeqAt (fun b => [Value.int .u8 b]) 1 w3 v3 [97, 98, 0] (fun k => (w2.alloc (.cells #[.int .u64 0, .int .u64 0, .int .u64 0, .int .i64 0, .int .i64 0, .bool false, .int .u64 0, .int .u64 0, .int .u64 0, .int .i64 0, .int .i64 0, .bool false, .int .u64 0, .int .u64 0, .int .u64 0, .int .i64 0, .int .i64 0, .bool false, .int .u64 0, .int .u64 0, .int .u64 0, .int .i64 0, .int .i64 0, .bool false] 32)).heap.size ≤ k) := seq_of_own (l := [97, 98, 0]) (by simpa using HO3.out) rfl (fun _ _ => rfl)
  have HQ3 := Lib.hid hq3
  have HK35 := Lib.hid ((HK4.out.alloc (.cells #[.int .u64 1024, .int .u64 1027, .int .u64 1024, .int .i64 1, .int .i64 (-1), .bool true] 30)).alloc (.cells #[.string { data := #[97, 98] }] 9) |>.trans HK5.out)
  clear hq3
  refine (sameb_any (Gb := fun k => w5.heap.size ≤ k) _ _ [97, 98, 0] [97, 98, 0] _ (HQ3.out.kept0 ((HK35.out.alloc _).alloc _)) (seq_of_own (l := [97, 98, 0]) (ownsRow_mono (own_block (blk_new2 w5 _ _) 3 1 rfl (by unfold maxLen; omega)) (by omega)) rfl (fun _ _ => rfl)) (by simp)).mono ?_
  rw [decide_eq_true rfl]
  rintro e w6 ⟨rfl, hk⟩
  have hS := HK35.out.blk HB3.out (fun h => h)
  rw [← HSL.out] at hS
  obtain ⟨⟨s0, s1, s2, s3, s4, s5⟩, ⟨s6, s7, s8, s9, s10, s11⟩, ⟨_, _, s14, _⟩, ⟨_, _, s20, _⟩⟩ := start_cells (hk.blk (blk_alloc (blk_alloc hS _) _) (fun h => h))
  obtain ⟨⟨c0, c1, c2, c3, c4, c5⟩, _⟩ := box6 (hk.blk (blk_alloc (blk_alloc (HK5.out.blk (blk_alloc (blk_new w4 _) _) (fun h => h)) _) _) (fun h => h))
  obtain ⟨⟨l0, l1, l2, l3, l4, l5⟩, _⟩ := box6 (hk.blk (blk_alloc (blk_new w5 _) _) (fun h => h))
  have HK6 := Lib.hid (((HK2.out.trans HKS3.out).trans HK35.out |>.alloc _ |>.alloc _).trans hk)
  clear hk hS
  have he1 : ∀ w, (binOp .eql 30 (.agg #[.int .u64 1024, .int .u64 1027, .int .u64 1024, .int .i64 1, .int .i64 (-1), .bool true]) (.agg #[.int .u64 1024, .int .u64 1027, .int .u64 1024, .int .i64 1, .int .i64 (-1), .bool true])).run Try.prog w = .ok (.bool true) w := fun w => by kernel_rfl
  have he2 : ∀ w, (binOp .eql 30 (.agg #[.int .u64 1056, .int .u64 1088, .int .u64 1056, .int .i64 9, .int .i64 (-1), .bool true]) (.agg #[.int .u64 1056, .int .u64 1088, .int .u64 1056, .int .i64 9, .int .i64 (-1), .bool true])).run Try.prog w = .ok (.bool true) w := fun w => by kernel_rfl
  have he3 : ∀ w, (binOp .eql 30 (.agg #[.int .u64 1184, .int .u64 1280, .int .u64 1280, .int .i64 27, .int .i64 (-1), .bool true]) (.agg #[.int .u64 1184, .int .u64 1280, .int .u64 1280, .int .i64 27, .int .i64 (-1), .bool true])).run Try.prog w = .ok (.bool true) w := fun w => by kernel_rfl
  go_wp2_with fail
  go_ret
  exact ⟨rfl, HK6.out⟩

end Go.Proofs.Ytkmbmbpjppjdjaa
