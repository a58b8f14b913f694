/- Walks: a list of capabilities is laid into memory. -/
import Derived.Test.YtkmbmbpjppjdjaaAbiP
import Derived.WalkLawsBesides
namespace Go.Proofs.Ytkmbmbpjppjdjaa
open Go.RowKit Go.Maps TmP
set_option linter.unusedSimpArgs false
set_option linter.unusedVariables false
set_option maxRecDepth 100000

theorem Kept.set6 {F : Nat → Prop} {w w' : World} {b : Nat} (h : Kept F w w') (hb : F b ∨ w.heap.size ≤ b) (v0 v1 v2 v3 v4 v5 : Value) :
    Kept F w ((((((w'.setCell ⟨b, 0, none⟩ v0).setCell ⟨b, 1, none⟩ v1).setCell ⟨b, 2, none⟩ v2).setCell ⟨b, 3, none⟩ v3).setCell ⟨b, 4, none⟩ v4).setCell ⟨b, 5, none⟩ v5) :=
  (((((h.setCell (p := ⟨b, 0, none⟩) hb v0).setCell (p := ⟨b, 1, none⟩) hb v1).setCell (p := ⟨b, 2, none⟩) hb v2).setCell (p := ⟨b, 3, none⟩) hb v3).setCell (p := ⟨b, 4, none⟩) hb v4).setCell (p := ⟨b, 5, none⟩) hb v5

theorem one_capE (c : Cap) : ∀ u ∈ capE c, u.oneCell' = true := by
  intro u hu
  simp [capE] at hu
  rcases hu with h | h | h | h | h | h <;> (rw [h]; rfl)

theorem clone_any {G : Nat → Prop} (v : Value) (l : List Cap) (w : World) (hv : SeqAt capE 6 w v l G) (hs : Slc v) (hn : l.length ≤ 1000) :
    Calls Try.prog 78 #[v] w fun e w' => ∃ v', e = .returned v' ∧ w'.ownsRow w.heap.size 30 6 v' l.length (l.flatMap capE) ∧ Kept Non w w' := by
  rcases hs with rfl | ⟨ad, n, c, rfl⟩
  · have hl0 : l = [] := by
      obtain ⟨ao, cap, h, _⟩ := hv
      simp only [Value.slice.injEq] at h
      exact List.eq_nil_of_length_eq_zero h.2.1.symm
    subst hl0
    have he : ∀ w, (binOp .eql 40 (.slice none 0 0) (.slice none 0 0)).run Try.prog w = .ok (.bool true) w := fun w => Lib.run_eql_slice_nil w 40 30 none 0 0 0 0 Try.underlying40
    go_enter Try.func78, Try.ntmps78
    go_wp2
    go_ret
    exact ⟨_, rfl, World.ownsRow_nil _ _ _ _, Kept.refl _ _⟩
  · obtain ⟨i1, hi1, hz10, hz11, hz12⟩ := info_parts infoCap
    have he : ∀ w, (binOp .eql 40 (.slice (some ad) n c) (.slice none 0 0)).run Try.prog w = .ok (.bool false) w := fun w => Lib.run_eql_slice_nil w 40 30 (some ad) n c 0 0 Try.underlying40
    have HV := Lib.hid hv
    clear hv
    go_enter Try.func78, Try.ntmps78
    have hown : (w.alloc (.cells #[] 30)).ownsRow w.heap.size 30 6 (.slice (some ⟨w.heap.size, 0, none⟩) 0 0) 0 [] := ⟨rfl, .inr ⟨w.heap.size, 0, #[], rfl, Nat.le_refl _, blk_new w _, Nat.le_refl _, Nat.zero_le _, rfl, rfl⟩⟩
    have HO := Lib.hid hown
    clear hown
    have hnl : n = l.length := by
      obtain ⟨ao, cap, h, _⟩ := HV.out
      simp only [Value.slice.injEq] at h
      exact h.2.1
    have HN := Lib.hid hnl
    clear hnl
    go_wp2_with (at_builtin; refine wpList_cat w (w.alloc (.cells #[] 30)) Non G ((Kept.refl Non w).alloc _) rfl _ _ 40 rfl 30 _ _ 6 48 Try.underlying40 hi1 hz10 hz11 hz12 rfl (by omega) _ 0 [] HO.out rfl _ l rfl (HV.out.kept0 ((Kept.refl Non w).alloc _)) (.inr ⟨_, _, _, rfl⟩) (fun _ _ => rfl) (fun x _ => one_capE x) (by unfold maxLen; omega) (by omega) ?_; intro v1 w1 ho hk; have HO1 := Lib.hid ho; have HK := Lib.hid hk; clear ho hk)
    go_ret
    refine ⟨_, rfl, ?_, HK.out⟩
    simpa using HO1.out

theorem own_cap {w : World} {base : Nat} {v : Value} {L : List Cap} (h : w.ownsRow base 30 6 v L.length (L.flatMap capE)) (hL : 0 < L.length) :
    ∃ g cap, v = .slice (some ⟨g, 0, none⟩) L.length cap ∧ L.length ≤ cap ∧ base ≤ g ∧ g < w.heap.size ∧ ∀ (k : Nat) (hk : k < L.length) (j : Nat) (u : Value), (capE L[k])[j]? = some u → w.cell? ⟨g, 0 + k * 6 + j, none⟩ = some u := by
  have hS := seq_of_own (enc := capE) h rfl (fun _ _ => rfl)
  obtain ⟨ao, cap, hv, hc, h⟩ := hS
  rcases h with h | ⟨g, off, rfl, hg, hlt, hcell⟩
  · subst h; simp at hL
  · obtain ⟨_, ⟨h2, _⟩ | ⟨g', cap', cur, h2, hg', _⟩⟩ := h
    · rw [hv] at h2; cases h2
    · rw [hv] at h2
      simp only [Value.slice.injEq, Option.some.injEq, Addr.mk.injEq] at h2
      obtain ⟨⟨rfl, rfl, _⟩, _, _⟩ := h2
      exact ⟨g, cap, hv, hc, hg, hlt, fun k hk j u hu => hcell k L[k] (List.getElem?_eq_getElem hk) j u hu⟩

set_option maxHeartbeats 1600000 in
theorem list_any {w : World} {m : Nat} {M : PM} {F : Nat → Prop} (h : MemAt w m M F) (lb : Nat) (a : Int) (v : Value) (l : List Cap) (hl : LayAt w lb m a) (hF : ¬ F lb) {G : Nat → Prop}
    (hv : SeqAt capE 6 w v l G) (hs : Slc v) (hn : l.length ≤ 900) (hU : ∀ c ∈ l, Cap.U c) (h0 : 0 ≤ a) (hsz : a + 32 * (l.length + 1) ≤ 16777216) :
    Calls Try.prog 47 #[.pointer (some ⟨lb, 0, none⟩), v] w fun e w' => e = .returned (capV (ofC a (32 * l.length) 9)) ∧ MemAt w' m (M.lst a (l ++ [Cap.int 0])) F ∧ LayAt w' lb m (a + 32 * (l.length + 1)) ∧ Kept (fun k => F k ∨ k = lb) w w' := by
  have hlt : lb < w.heap.size := lt_blk hl
  have d0 := cell_blk hl 0
  have d1 := cell_blk hl 1
  simp only [List.getElem?_toArray, List.getElem?_cons_zero, List.getElem?_cons_succ] at d0 d1
  have H := Lib.hid h
  have HL := Lib.hid hl
  have HC := Lib.hid (fun w' (hk : Kept Non w w') => clone_any v l w' (hv.kept0 hk) hs (by omega))
  obtain ⟨i1, hi1, hz10, hz11, hz12⟩ := info_parts infoCap
  clear h hl hv
  go_enter Try.func47, Try.ntmps47
  have hnull := fun w => capnull_any w
  simp only [capV] at hnull
  have hLl : (l ++ [Cap.int 0]).length = l.length + 1 := by simp
  have hLU : ∀ c ∈ l ++ [Cap.int 0], Cap.U c := fun c hc => by
    rcases List.mem_append.1 hc with hc | hc
    · exact hU c hc
    · simp at hc; subst hc; exact ⟨⟨by simp [Cap.int], by simp [Cap.int]⟩, ⟨by simp [Cap.int], by simp [Cap.int]⟩, ⟨by simp [Cap.int], by simp [Cap.int]⟩⟩
  have hLf : (l ++ [Cap.int 0]).flatMap capE = l.flatMap capE ++ (capC (Cap.int 0)).toList := by rw [List.flatMap_append]; rfl
  have HLU := Lib.hid hLU
  have HLF := Lib.hid hLf
  have HLL := Lib.hid hLl
  clear hLU hLf hLl hU
  generalize hLL : l ++ [Cap.int 0] = L at HLU HLF HLL ⊢
  clear hLL
  go_wp2_with (first
    | (go_at_call 78; refine (HC.out _ ((Kept.refl _ _).alloc _)).mono ?_; rintro e w1 ⟨v1, rfl, ho, hk⟩; have HO := Lib.hid (ownsRow_mono ho (base' := w.heap.size + 1) (by simp)); have HK := Lib.hid hk; clear ho hk)
    | (go_at_call 79; refine (hnull _).mono ?_; rintro e w2 ⟨rfl, hk⟩; have HK2 := Lib.hid (HK.out.trans hk); have HO2 := Lib.hid (ownsRow_kept0 HO.out hk); clear hk)
    | (at_builtin; refine wpList_push2 (w.heap.size + 1) w2 (capC (Cap.int 0)) (by have := HK2.out.size; simpa using this) rfl _ _ 40 rfl 30 _ _ 6 48 Try.underlying40 hi1 hz10 hz11 hz12 rfl (by omega) _ l.length _ HO2.out rfl rfl rfl (fun u hu => by simp [capC] at hu; rcases hu with h | h | h | h | h | h <;> (rw [h]; rfl)) (by unfold maxLen; omega) (by omega) ?_
       intro v2 w3 ho hk3 _
       have ho' : w3.ownsRow (w.heap.size + 1) 30 6 v2 L.length (L.flatMap capE) := by rw [HLF.out, HLL.out]; exact ho
       obtain ⟨g, cap, rfl, hcap, hg, hgl, hcell⟩ := own_cap ho' (by have := HLL.out; omega)
       rw [HLL.out]
       have HCELL := Lib.hid hcell
       have HK3 := Lib.hid ((HK2.out.mono (G := fun k => w.heap.size + 1 ≤ k) (fun _ h => h.elim)).trans hk3)
       clear ho ho' hk3 hcell hcap))
  have hM3 : MemAt w3 m M F := (H.out.kept0 ((Kept.refl _ _).alloc _)).kept HK3.out (fun x hx => by have := H.out.lt x hx; omega)
  have hL3 : LayAt w3 lb m a := HK3.out.blk (blk_alloc HL.out _) (by omega)
  have hR3 := HK3.out.blk (blk_new w _) (by simp)
  have HM3 := Lib.hid hM3
  have HL3 := Lib.hid hL3
  have HR3 := Lib.hid hR3
  have hw3 : w.heap.size + 1 ≤ w3.heap.size := by have := HK3.out.size; simpa using this
  clear hM3 hL3 hR3
  go_loopw [7, 18] (fun _ i wr => ∃ k : Nat, k ≤ l.length + 1 ∧ i = .int .i64 k ∧ MemAt wr m (M.lst a (L.take k)) F ∧ LayAt wr lb m (a + 32 * k) ∧ Kept (fun x => F x ∨ x = lb) w3 wr) (fun _ i _ => l.length + 1 - (intOf i).toNat)
  case atStart => exact ⟨0, by omega, rfl, by simpa [PM.lst] using HM3.out, by simpa using HL3.out, Kept.refl _ _⟩
  case round =>
    obtain ⟨k, hk, rfl, hM, hA, hK⟩ := hrel
    have HM := Lib.hid hM
    have HA := Lib.hid hA
    have HK := Lib.hid hK
    clear hM hA hK d0 d1
    by_cases hlt1 : k < l.length + 1
    · have hkL : k < L.length := by have := HLL.out; omega
      have hcell : ∀ (j : Nat) (u : Value), (capE L[k])[j]? = some u → wr.cell? ⟨g, k * 6 + j, none⟩ = some u := fun j u hu => by
        have := HCELL.out k hkL j u hu
        rw [Nat.zero_add] at this
        exact HK.out.cell this (fun hh => by
          rcases hh with hh | hh
          · have := H.out.lt _ hh; simp only at this; omega
          · simp only at hh; omega)
      have c0 : wr.cell? ⟨g, k * 6, none⟩ = some (.int .u64 L[k].base) := hcell 0 _ rfl
      have c1 : wr.cell? ⟨g, k * 6 + 1, none⟩ = some (.int .u64 L[k].top) := hcell 1 _ rfl
      have c2 : wr.cell? ⟨g, k * 6 + 2, none⟩ = some (.int .u64 L[k].at_) := hcell 2 _ rfl
      have c3 : wr.cell? ⟨g, k * 6 + 3, none⟩ = some (.int .i64 L[k].perms) := hcell 3 _ rfl
      have c4 : wr.cell? ⟨g, k * 6 + 4, none⟩ = some (.int .i64 L[k].typ) := hcell 4 _ rfl
      have c5 : wr.cell? ⟨g, k * 6 + 5, none⟩ = some (.bool L[k].tag) := hcell 5 _ rfl
      clear hcell
      have HU := Lib.hid (HLU.out L[k] (List.getElem_mem hkL))
      have hsc := fun w' (hk' : Kept Non wr w') => storecap_any (HM.out.kept0 hk') (a + 32 * k) L[k] (by omega) (by omega) HU.out
      simp only [capV] at hsc
      have HS := Lib.hid hsc
      clear hsc
      go_upto_region 5 with (fail)
      go_cut [18] from 18 to 39 (fun i wx => i = .int .i64 k ∧ MemAt wx m ((M.lst a (L.take k)).storeCap (a + 32 * k) L[k]) F ∧ Kept F wr wx)
      case first =>
        have hA1 : ∀ o, LayAt (wr.alloc o) lb m (a + 32 * k) := fun o => blk_alloc HA.out o
        have d0 : ∀ o, (wr.alloc o).cell? ⟨lb, 0, none⟩ = some (.pointer (some ⟨m, 0, none⟩)) := fun o => cell_blk (hA1 o) 0
        have d1 : ∀ o, (wr.alloc o).cell? ⟨lb, 1, none⟩ = some (.int .u64 (a + 32 * k)) := fun o => cell_blk (hA1 o) 1
        clear hA1
        go_region_with (go_at_call 29; refine (HS.out _ (by repeat (first | exact Kept.refl _ _ | apply Kept.drew | apply Kept.alloc))).mono ?_; rintro e w4 ⟨rfl, hm, hk4⟩; have HM4 := Lib.hid hm; have HK4 := Lib.hid hk4; clear hm hk4)
        all_goals try go_wp2_with fail
        all_goals go_meet
        all_goals exact ⟨rfl, HM4.out, Kept.trans (by repeat (first | exact Kept.refl _ _ | apply Kept.drew | apply Kept.alloc)) HK4.out⟩
      case rest =>
      obtain ⟨rfl, hM2, hK2⟩ := hcut
      have hA2 : LayAt wc lb m (a + 32 * k) := hK2.blk HA.out hF
      have d0 := cell_blk hA2 0
      have d1 := cell_blk hA2 1
      have d2 := free_blk hA2 1
      simp only [List.getElem?_toArray, List.getElem?_cons_zero, List.getElem?_cons_succ] at d0 d1
      have e3 : IntKind.u64.wrap (a + 32 * (k : Int) + 32) = a + 32 * k + 32 := IntWalk.u64_in _ (by omega)
      have HA2 := Lib.hid hA2
      have HM2 := Lib.hid hM2
      have HK2' := Lib.hid hK2
      clear hA2 hM2 hK2 HS
      go_wp2_with fail
      have hval : a + 32 * (k : Int) + 32 = a + 32 * ((k + 1 : Nat) : Int) := by omega
      have htk : L.take (k + 1) = L.take k ++ [L[k]] := List.take_succ_eq_append_getElem hkL
      have hlk : (L.take k).length = k := by rw [List.length_take]; omega
      refine ⟨⟨k + 1, by omega, by go_num, ?_, ?_, ?_⟩, by simp [intOf]; omega⟩
      · rw [htk, PM.lst_snoc, hlk]
        exact HM2.out.kept ((Kept.refl (fun x => x = lb) wc).setCell (p := ⟨lb, 1, none⟩) (.inl rfl) _) (fun x hx e => hF (e ▸ hx))
      · have h1 := blk_setCell HA2.out 1 (.int .u64 (a + 32 * (k : Int) + 32))
        rw [hval] at h1 ⊢
        exact h1
      · exact (HK.out.trans (HK2'.out.mono (fun x hx => .inl hx))).setCell (p := ⟨lb, 1, none⟩) (.inl (.inr rfl)) _
    · obtain rfl : k = l.length + 1 := by omega
      have hLe : L.take (l.length + 1) = L := by rw [List.take_of_length_le]; have := HLL.out; omega
      have hA2 := HA.out
      have d0 := cell_blk hA2 0
      have d1 := cell_blk hA2 1
      simp only [List.getElem?_toArray, List.getElem?_cons_zero, List.getElem?_cons_succ] at d0 d1
      have HX := Lib.hid (show a + 32 * ((l.length : Int) + 1) - a - 32 = 32 * (l.length : Int) by omega)
      have hof := fun w' => of_any' a (32 * (l.length : Int)) 9 h0 (by omega) (by omega) w' (by kernel_rfl)
      simp only [capV] at hof
      have HOF := Lib.hid hof
      have HLE := Lib.hid hLe
      clear hA2 hof hLe
      go_wp2_with (go_at_call 49; rw [HX.out]; refine (HOF.out _).mono ?_; rintro e w4 ⟨rfl, hk⟩; obtain ⟨⟨r0, r1, r2, r3, r4, r5⟩, ⟨g0, g1, g2, g3, g4, g5⟩⟩ := box6 (hk.blk (HK.out.blk HR3.out (fun hh => hh.elim (fun h1 => by have := H.out.lt _ h1; omega) (fun h1 => by omega))) (fun h => h)); have HK4 := Lib.hid hk; clear hk)
      have hmm := HM.out
      rw [HLE.out] at hmm
      have hM4 : MemAt w4 m (M.lst a L) F := hmm.kept0 HK4.out
      have hA4 : LayAt w4 lb m (a + 32 * ((l.length : Int) + 1)) := HK4.out.blk HA.out (fun h => h)
      have hKK : Kept (fun k => F k ∨ k = lb) w w4 := (((Kept.refl _ w).alloc _).then_ HK3.out (fun x hx => .inr (by omega))).trans (HK.out.trans (HK4.out.mono (fun _ h => h.elim)))
      refine bodyPost_ret (v := capV (ofC a (32 * (l.length : Int)) 9)) (by simp [results, Try.results47, go_sem, capV, ofC, r0, r1, r2, r3, r4, r5]) rfl ⟨rfl, ?_, ?_, ?_⟩
      · exact hM4.kept (G := fun x => x = w.heap.size) ((Kept.refl (fun x => x = w.heap.size) w4).set6 (.inl rfl) _ _ _ _ _ _) (fun x hx e => by have := H.out.lt x hx; omega)
      · exact Kept.blk (F := fun x => x = w.heap.size) ((Kept.refl (fun x => x = w.heap.size) w4).set6 (.inl rfl) _ _ _ _ _ _) hA4 (by omega)
      · exact hKK.set6 (.inr (Nat.le_refl _)) _ _ _ _ _ _

end Go.Proofs.Ytkmbmbpjppjdjaa
