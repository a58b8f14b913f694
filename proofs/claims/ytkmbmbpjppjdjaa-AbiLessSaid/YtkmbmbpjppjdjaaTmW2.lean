/- Walks: pages are mapped and unmapped. -/
import Derived.Test.YtkmbmbpjppjdjaaTmW1
import Derived.Test.YtkmbmbpjppjdjaaTmL
import Derived.Deep.QuietTactic
import Derived.BigQuiet
namespace Go.Proofs.Ytkmbmbpjppjdjaa
open Go.RowKit Go.Maps TmP
set_option linter.unusedSimpArgs false
set_option linter.unusedVariables false

theorem zeroPage : Try.zeroCells100 = (List.replicate 256 (Value.int .u8 0) ++ List.replicate 8 (Value.bool false)).toArray := by kernel_rfl

theorem pageAt_new (w : World) (M : PM) (p : Int) (hb : ∀ i : Nat, i < 256 → M.byte (256 * p + i) = 0) (ht : ∀ j : Nat, j < 8 → M.tag (8 * p + j) = false) :
    PageAt (w.alloc (.cells Try.zeroCells100 100)) w.heap.size M p := by
  refine ⟨_, blk_new w _, ?_, fun i hi => ?_, fun j hj => ?_⟩
  · rw [zeroPage, List.size_toArray, List.length_append, List.length_replicate, List.length_replicate]
  · rw [zeroPage, hb i hi]
    rw [List.getElem?_toArray, List.getElem?_append_left (by rw [List.length_replicate]; exact hi), List.getElem?_replicate, if_pos hi]
  · rw [zeroPage, ht j hj]
    rw [List.getElem?_toArray, List.getElem?_append_right (by rw [List.length_replicate]; omega), List.getElem?_replicate, List.length_replicate, if_pos (by omega)]

theorem PageAt.congr {w : World} {b : Nat} {M M' : PM} {p : Int} (h : PageAt w b M p) (hb : ∀ i : Nat, i < 256 → M'.byte (256 * p + i) = M.byte (256 * p + i)) (ht : ∀ j : Nat, j < 8 → M'.tag (8 * p + j) = M.tag (8 * p + j)) : PageAt w b M' p := by
  obtain ⟨cs, h1, h2, h3, h4⟩ := h
  exact ⟨cs, h1, h2, fun i hi => by rw [hb i hi]; exact h3 i hi, fun j hj => by rw [ht j hj]; exact h4 j hj⟩

/-- One more page. -/
theorem Lies.grow_step {w w1 : World} {m bm : Nat} {blk : Int → Nat} {M : PM} {F : Nat → Prop} {f : Int} {k : Nat} (h : Lies w m bm blk (M.grow f k) F)
    (hwf : (M.grow f (k + 1)).WF) (hk : f + (k : Int) ∉ (M.grow f k).keys)
    (hown : w1.ownsMap Try.prog 22 pgElem bm ((M.grow f k).keys.length + 1) ((pd (M.grow f k).keys blk).put (.int .u64 (f + (k : Int))) (.lit (.int .u64 (w.heap.size : Int)))))
    (hg : (w.alloc (.cells Try.zeroCells100 100)).grownBy w1 (some bm)) :
    MemAt w1 m (M.grow f (k + 1)) (fun b => F b ∨ b = w.heap.size) := by
  have hsz : (w.alloc (.cells Try.zeroCells100 100)).heap.size = w.heap.size + 1 := by simp
  have hblk : ∀ b, b < w.heap.size → b ≠ bm → w1.heap[b]? = w.heap[b]? := fun b hb hne => by
    rw [hg.block b (by omega) (by simpa using hne), Below.heap_alloc _ _ _ hb]
  refine ⟨bm, fun x => if x = f + (k : Int) then w.heap.size else blk x, ⟨hwf, ?_, ?_, ?_, ?_, .inl h.fm, .inl h.fbm, ?_, ?_⟩⟩
  · rw [hblk m (h.flt m h.fm) (fun e => by
      have h1 := h.top
      obtain ⟨es, cl, h2, _⟩ := h.own
      rw [e, h2] at h1
      cases h1)]
    exact h.top
  · rw [put_pd _ _ _ _ hk] at hown
    have e1 : (M.grow f (k + 1)).keys.length = (M.grow f k).keys.length + 1 := by rw [grow_succ]; exact length_insK
    rw [e1]
    exact hown
  · intro p hp
    by_cases e : p = f + (k : Int)
    · subst e
      have h1 := pageAt_new w (M.grow f (k + 1)) (f + (k : Int)) (fun i hi => ?_) (fun j hj => ?_)
      · rw [if_pos rfl]
        refine (h1.of_blk ?_ : PageAt w1 _ _ _)
        · rw [hg.block w.heap.size (by omega) ?_]
          · simp only [ne_eq, Option.some.injEq]
            have := h.flt bm h.fbm
            omega
      · show M.byte _ = 0
        exact h.wf.bz _ (by rw [show (256 * (f + (k : Int)) + (i : Int)) / 256 = f + k by omega]; exact hk)
      · show M.tag _ = false
        exact h.wf.tz _ (by rw [show (8 * (f + (k : Int)) + (j : Int)) / 8 = f + k by omega]; exact hk)
    · have hp' : p ∈ (M.grow f k).keys := by
        rw [grow_succ] at hp
        rcases mem_insK.1 hp with hp | hp
        · exact absurd hp e
        · exact hp
      rw [if_neg e]
      refine ((h.page p hp').of_blk (hblk _ (h.flt _ (h.fpg p hp')) (fun e1 => ?_))).congr (fun _ _ => rfl) (fun _ _ => rfl)
      obtain ⟨cs, h1, _⟩ := h.page p hp'
      obtain ⟨es, cl, h2, _⟩ := h.own
      rw [e1, h2] at h1
      cases h1
  · intro p hp q hq e
    have mem' : ∀ x, x ∈ (M.grow f (k + 1)).keys → x ≠ f + (k : Int) → x ∈ (M.grow f k).keys := fun x hx hne => by
      rw [grow_succ] at hx
      rcases mem_insK.1 hx with hx | hx
      · exact absurd hx hne
      · exact hx
    by_cases e1 : p = f + (k : Int) <;> by_cases e2 : q = f + (k : Int)
    · omega
    · rw [if_pos e1, if_neg e2] at e
      have := h.flt _ (h.fpg q (mem' q hq e2))
      omega
    · rw [if_neg e1, if_pos e2] at e
      have := h.flt _ (h.fpg p (mem' p hp e1))
      omega
    · rw [if_neg e1, if_neg e2] at e
      exact h.inj p (mem' p hp e1) q (mem' q hq e2) e
  · intro p hp
    by_cases e : p = f + (k : Int)
    · rw [if_pos e]; exact .inr rfl
    · rw [if_neg e]
      rw [grow_succ] at hp
      rcases mem_insK.1 hp with hp | hp
      · exact absurd hp e
      · exact .inl (h.fpg p hp)
  · rintro b (hb | rfl)
    · have := h.flt b hb
      have := hg.size
      omega
    · have := hg.size
      omega

theorem Lies.lenN {w : World} {m bm : Nat} {blk : Int → Nat} {M : PM} {F : Nat → Prop} (h : Lies w m bm blk M F) (q : Nat) :
    (Builtin.len_ #[81] 3 #[.map (some bm)]).run Try.prog (w.drewN q) = .ok (.int .i64 M.keys.length) (w.drewN q) := by
  have := (h.kept0 ((Kept.refl Non w).drewN q)).own.len Try.underlying81 3
  rwa [size_pd] at this

/-- 'Map', where it maps. -/
theorem map_ok {w : World} {m : Nat} {M : PM} {F : Nat → Prop} (h : MemAt w m M F) (f : Int) (n : Nat) (h0 : 0 ≤ f) (hs : someB f n = true)
    (ha : allB M.keys f n false = true) (hlen : (M.keys.length : Int) + n ≤ M.budget) :
    Calls Try.prog 34 #[.pointer (some ⟨m, 0, none⟩), .int .u64 f, .int .i64 n] w fun e w' => e = .returned (.int .i64 0) ∧
      ∃ F', MemAt w' m (M.grow f n) F' ∧ Kept F w w' ∧ ∀ b, F' b → F b ∨ w.heap.size ≤ b := by
  obtain ⟨bm, blk, h⟩ := h
  have hs' := hs
  simp only [someB, decide_eq_true_eq] at hs'
  obtain ⟨_, hn, hf, hfn⟩ := hs'
  have hnot := allB_iff.1 ha
  have hnotin : ∀ i : Nat, i < n → f + (i : Int) ∉ M.keys := fun i hi => by simpa using hnot i hi
  have hwfs : ∀ k, k ≤ n → (M.grow f k).WF := fun k hk => h.wf.grow h0 (by omega) (fun i hi => hnotin i (by omega)) (by omega)
  have hmost := h.wf.most
  have c0 := h.c0
  have c1 := h.c1
  have hl := h.lenN
  have HS := Lib.hid hs
  have HA := Lib.hid ha
  have HW := Lib.hid hwfs
  have HN := Lib.hid hnotin
  have H := Lib.hid h
  clear hs ha hwfs hnot hnotin h
  have hdec : decide (M.budget < (M.keys.length : Int) + n) = false := by simp; omega
  go_enter Try.func34, Try.ntmps34
  go_wp2_with (first | (go_at_call 61; refine (some_any f n w h0 (by omega)).mono ?_; rw [HS.out]; rintro e w' ⟨rfl, rfl⟩) | (go_at_call 62; refine (all_any H.out f n false h0 (by omega) (by omega)).mono ?_; rw [HA.out]; rintro e w' ⟨rfl, rfl⟩))
  go_quiet (fail)
  go_wp2_with fail
  clear hl c1 HS HA c0
  go_loopw [33] (fun i wr => ∃ k : Nat, k ≤ n ∧ i = .int .i64 k ∧ ∃ F', MemAt wr m (M.grow f k) F' ∧ Kept F w wr ∧ (∀ b, F' b → F b ∨ w.heap.size ≤ b)) (fun i _ => n - (intOf i).toNat)
  case atStart => exact ⟨0, Nat.zero_le _, rfl, F, by rw [grow_zero]; exact ⟨bm, blk, H.out.kept0 ((Kept.refl Non w).drewN nq)⟩, (Kept.refl F w).drewN nq, fun b hb => .inl hb⟩
  case round =>
    obtain ⟨k, hk, rfl, F', ⟨bm', blk', hL⟩, hK, hF⟩ := hrel
    have c0 := hL.c0
    have hown := hL.own
    have hkeys : (M.grow f k).keys.length < maxLen := by
      have h1 := hL.wf.few
      have h2 := hL.wf.most
      unfold maxLen
      omega
    have HL := Lib.hid hL
    have HK := Lib.hid hK
    have HF := Lib.hid hF
    clear hL hK hF
    by_cases hlt : k < n
    · have hkey : keyOf Try.prog 22 (.int .u64 (f + k)) = some (.int .u64 (f + k)) := keyOf_int_mk Try.underlying22 (wfU (by omega) (by omega))
      go_wp2_with (at_mapUpdate; refine wpList_mapUpdate_own _ rfl _ _ _ 81 rfl 22 101 lawU Try.underlying81 pgElem bm' _ _ rfl (hown.alloc _) hkeys _ _ _ rfl rfl hkey (.lit (.int .u64 (wr.heap.size : Int))) [] rfl ?_; intro w1 hown1 hgrow1)
      go_roundw
      case rel =>
        refine ⟨k + 1, by omega, by go_num, _, HL.out.grow_step (HW.out (k + 1) (by omega)) ?_ hown1 hgrow1, ?_, ?_⟩
        · intro hm
          rcases mem_insAll.1 hm with hm | hm
          · omega
          · exact HN.out k hlt hm
        · exact (HK.out.alloc _).grown hgrow1 (fun b hb => by
            cases hb
            exact HF.out _ HL.out.fbm)
        · rintro b (hb | rfl)
          · exact HF.out b hb
          · exact .inr HK.out.size
      case measure => simp [intOf]; omega
    · have hkn : k = n := by omega
      subst hkn
      clear hown
      go_wp2
      go_ret
      exact ⟨rfl, F', ⟨bm', blk', HL.out⟩, HK.out, HF.out⟩

theorem ownsMap_tight {w : World} {k : TypeId} {R : Value → Option (DataW Unit × List MemPlace)} {b n : Nat} {D : DataW Unit} (h : w.ownsMap Try.prog k R b n D) : w.ownsMap Try.prog k R b (Maps.size D) D := by
  obtain ⟨es, clock, hb, F, _, rfl⟩ := h
  exact ⟨es, clock, hb, F, by simp [Maps.size, length_sorted], rfl⟩

theorem map_bad1 {w : World} (v : Value) (f n : Int) (h0 : 0 ≤ f) (h1 : f < 18446744073709551616) (hs : someB f n = false) :
    Calls Try.prog 34 #[v, .int .u64 f, .int .i64 n] w fun e w' => e = .returned (.int .i64 1) ∧ w = w' := by
  go_enter Try.func34, Try.ntmps34
  have HS := Lib.hid hs
  clear hs
  go_wp2_with (go_at_call 61; refine (some_any f n w h0 h1).mono ?_; rw [HS.out]; rintro e w' ⟨rfl, rfl⟩)
  go_ret
  exact ⟨rfl, rfl⟩

theorem map_bad32 {w : World} {m bm : Nat} {blk : Int → Nat} {M : PM} {F : Nat → Prop} (h : Lies w m bm blk M F) (f : Int) (n : Nat) (h0 : 0 ≤ f) (hs : someB f n = true) (ha : allB M.keys f n false = false) :
    Calls Try.prog 34 #[.pointer (some ⟨m, 0, none⟩), .int .u64 f, .int .i64 n] w fun e w' => e = .returned (.int .i64 32) ∧ w = w' := by
  have hs' := hs
  simp only [someB, decide_eq_true_eq] at hs'
  obtain ⟨_, hn, hf, hfn⟩ := hs'
  have HS := Lib.hid hs
  have HA := Lib.hid ha
  have H := Lib.hid h
  clear hs ha h
  go_enter Try.func34, Try.ntmps34
  go_wp2_with (first | (go_at_call 61; refine (some_any f n w h0 (by omega)).mono ?_; rw [HS.out]; rintro e w' ⟨rfl, rfl⟩) | (go_at_call 62; refine (all_any H.out f n false h0 (by omega) (by omega)).mono ?_; rw [HA.out]; rintro e w' ⟨rfl, rfl⟩))
  go_ret
  exact ⟨rfl, rfl⟩

theorem map_bad33 {w : World} {m bm : Nat} {blk : Int → Nat} {M : PM} {F : Nat → Prop} (h : Lies w m bm blk M F) (f : Int) (n : Nat) (h0 : 0 ≤ f) (hs : someB f n = true) (ha : allB M.keys f n false = true)
    (hlen : M.budget < (M.keys.length : Int) + n) :
    Calls Try.prog 34 #[.pointer (some ⟨m, 0, none⟩), .int .u64 f, .int .i64 n] w fun e w' => e = .returned (.int .i64 33) ∧ ∃ q, w' = w.drewN q := by
  have hs' := hs
  simp only [someB, decide_eq_true_eq] at hs'
  obtain ⟨_, hn, hf, hfn⟩ := hs'
  have h1 := h.wf.few
  have h2 := h.wf.most
  have c0 := h.c0
  have c1 := h.c1
  have hl := h.lenN
  have HS := Lib.hid hs
  have HA := Lib.hid ha
  have H := Lib.hid h
  clear hs ha h
  go_enter Try.func34, Try.ntmps34
  go_wp2_with (first | (go_at_call 61; refine (some_any f n w h0 (by omega)).mono ?_; rw [HS.out]; rintro e w' ⟨rfl, rfl⟩) | (go_at_call 62; refine (all_any H.out f n false h0 (by omega) (by omega)).mono ?_; rw [HA.out]; rintro e w' ⟨rfl, rfl⟩))
  go_quiet (fail)
  go_wp2
  go_ret
  exact ⟨rfl, _, rfl⟩

/-- What a call does to a memory that it is given: it answers e, the memory is M' then, and nothing else has turned. -/
def Does (w : World) (m : Nat) (F : Nat → Prop) (v : Value) (M' : PM) (e : Ending) (w' : World) : Prop :=
  e = .returned v ∧ ∃ F', MemAt w' m M' F' ∧ Kept F w w' ∧ ∀ b, F' b → F b ∨ w.heap.size ≤ b

theorem Does.same {w w' : World} {m : Nat} {F : Nat → Prop} {v : Value} {M : PM} {e : Ending} (h : MemAt w m M F) (he : e = .returned v) (hk : Kept Non w w') : Does w m F v M e w' :=
  ⟨he, F, h.kept0 hk, hk.mono (fun _ h => h.elim), fun b hb => .inl hb⟩

theorem mapE_1 {M : PM} {f n : Int} (hs : someB f n = false) : M.mapE f n = 1 := by simp [PM.mapE, hs]
theorem mapE_32 {M : PM} {f n : Int} (hs : someB f n = true) (ha : allB M.keys f n.toNat false = false) : M.mapE f n = 32 := by simp [PM.mapE, hs, ha]
theorem mapE_33 {M : PM} {f n : Int} (hs : someB f n = true) (ha : allB M.keys f n.toNat false = true) (hl : M.budget < (M.keys.length : Int) + n) : M.mapE f n = 33 := by simp [PM.mapE, hs, ha, hl]
theorem mapE_0 {M : PM} {f n : Int} (hs : someB f n = true) (ha : allB M.keys f n.toNat false = true) (hl : ¬ M.budget < (M.keys.length : Int) + n) : M.mapE f n = 0 := by simp [PM.mapE, hs, ha, hl]
theorem map_same {M : PM} {f n : Int} (h : M.mapE f n ≠ 0) : M.map f n = M := by simp [PM.map, h]
theorem map_grow {M : PM} {f n : Int} (h : M.mapE f n = 0) : M.map f n = M.grow f n.toNat := by simp [PM.map, h, PM.grow]

/-- 'Map'. -/
theorem map_any {w : World} {m : Nat} {M : PM} {F : Nat → Prop} (h : MemAt w m M F) (f n : Int) (h0 : 0 ≤ f) (h1 : f < 18446744073709551616) :
    Calls Try.prog 34 #[.pointer (some ⟨m, 0, none⟩), .int .u64 f, .int .i64 n] w (Does w m F (.int .i64 (M.mapE f n)) (M.map f n)) := by
  by_cases hs : someB f n = true
  · have hs' := hs
    simp only [someB, decide_eq_true_eq] at hs'
    obtain ⟨n, rfl⟩ := Int.eq_ofNat_of_zero_le (show 0 ≤ n by omega)
    by_cases ha : allB M.keys f n false = true
    · by_cases hl : M.budget < (M.keys.length : Int) + n
      · have hE := mapE_33 (M := M) hs (by simpa using ha) hl
        rw [hE, map_same (by omega)]
        obtain ⟨bm, blk, h'⟩ := id h
        exact (map_bad33 h' f n h0 hs ha hl).mono (fun e w' ⟨he, q, hw⟩ => Does.same h he (by rw [hw]; exact (Kept.refl _ _).drewN q))
      · have hE := mapE_0 (M := M) hs (by simpa using ha) hl
        rw [hE, map_grow hE]
        exact (map_ok h f n h0 hs ha (by omega)).mono (fun e w' h => by simpa [Does] using h)
    · have ha : allB M.keys f n false = false := by simpa using ha
      have hE := mapE_32 (M := M) hs (by simpa using ha)
      rw [hE, map_same (by omega)]
      obtain ⟨bm, blk, h'⟩ := id h
      exact (map_bad32 h' f n h0 hs ha).mono (fun e w' ⟨he, hw⟩ => Does.same h he (by rw [← hw]; exact Kept.refl _ _))
  · have hs : someB f n = false := by simpa using hs
    have hE := mapE_1 (M := M) hs
    rw [hE, map_same (by omega)]
    exact (map_bad1 _ f n h0 h1 hs).mono (fun e w' ⟨he, hw⟩ => Does.same h he (by rw [← hw]; exact Kept.refl _ _))

/-- One page less. -/
theorem Lies.drop_step {w w1 : World} {m bm : Nat} {blk : Int → Nat} {M : PM} {F : Nat → Prop} {f : Int} {k : Nat} (h : Lies w m bm blk (M.drop f k) F) (hM : M.WF)
    (hown : w1.ownsMap Try.prog 22 pgElem bm (M.drop f k).keys.length ((pd (M.drop f k).keys blk).del (.int .u64 (f + (k : Int))))) (hg : w.grownBy w1 (some bm)) :
    Lies w1 m bm blk (M.drop f (k + 1)) F := by
  have hblk : ∀ b, b < w.heap.size → b ≠ bm → w1.heap[b]? = w.heap[b]? := fun b hb hne => hg.block b hb (by simpa using hne)
  have hkeys := drop_keys_succ M f k
  have sub : ∀ p, p ∈ (M.drop f (k + 1)).keys → p ∈ (M.drop f k).keys := fun p hp => by
    rw [hkeys] at hp
    exact (List.mem_filter.1 hp).1
  refine ⟨hM.drop f (k + 1), ?_, ?_, ?_, fun p hp q hq => h.inj p (sub p hp) q (sub q hq), h.fm, h.fbm, fun p hp => h.fpg p (sub p hp), fun b hb => Nat.lt_of_lt_of_le (h.flt b hb) hg.size⟩
  · rw [hblk m (h.flt m h.fm) (fun e => by
      have h1 := h.top
      obtain ⟨es, cl, h2, _⟩ := h.own
      rw [e, h2] at h1
      cases h1)]
    exact h.top
  · rw [del_pd, ← hkeys] at hown
    have := ownsMap_tight hown
    rwa [size_pd] at this
  · intro p hp
    have hp1 := mem_drop.1 hp
    refine ((h.page p (sub p hp)).of_blk (hblk _ (h.flt _ (h.fpg p (sub p hp))) (fun e1 => ?_))).congr (fun i hi => ?_) (fun j hj => ?_)
    · obtain ⟨cs, h1, _⟩ := h.page p (sub p hp)
      obtain ⟨es, cl, h2, _⟩ := h.own
      rw [e1, h2] at h1
      cases h1
    · simp only [PM.drop]
      rw [show (256 * p + (i : Int)) / 256 = p by omega, if_neg hp1.2, if_neg (by omega)]
    · simp only [PM.drop]
      rw [show (8 * p + (j : Int)) / 8 = p by omega, if_neg hp1.2, if_neg (by omega)]

theorem unmap_ok {w : World} {m : Nat} {M : PM} {F : Nat → Prop} (h : MemAt w m M F) (f : Int) (n : Nat) (h0 : 0 ≤ f) (hs : someB f n = true) (ha : allB M.keys f n true = true) :
    Calls Try.prog 35 #[.pointer (some ⟨m, 0, none⟩), .int .u64 f, .int .i64 n] w (Does w m F (.int .i64 0) (M.drop f n)) := by
  unfold Does
  obtain ⟨bm, blk, h⟩ := h
  have hs' := hs
  simp only [someB, decide_eq_true_eq] at hs'
  obtain ⟨_, hn, hf, hfn⟩ := hs'
  have HS := Lib.hid hs
  have HA := Lib.hid ha
  have HW := Lib.hid h.wf
  have H := Lib.hid h
  clear hs ha h
  go_enter Try.func35, Try.ntmps35
  go_wp2_with (first | (go_at_call 61; refine (some_any f n w h0 (by omega)).mono ?_; rw [HS.out]; rintro e w' ⟨rfl, rfl⟩) | (go_at_call 62; refine (all_any H.out f n true h0 (by omega) (by omega)).mono ?_; rw [HA.out]; rintro e w' ⟨rfl, rfl⟩))
  clear HS HA
  go_loopw [20] (fun i wr => ∃ k : Nat, k ≤ n ∧ i = .int .i64 k ∧ Lies wr m bm blk (M.drop f k) F ∧ Kept F w wr) (fun i _ => n - (intOf i).toNat)
  case atStart => exact ⟨0, Nat.zero_le _, rfl, by rw [drop_zero]; exact H.out, Kept.refl F w⟩
  case round =>
    obtain ⟨k, hk, rfl, hL, hK⟩ := hrel
    have c0 := hL.c0
    have hown := hL.own
    have HL := Lib.hid hL
    have HK := Lib.hid hK
    clear hL hK
    by_cases hlt : k < n
    · have hkey : keyOf Try.prog 22 (.int .u64 (f + k)) = some (.int .u64 (f + k)) := keyOf_int_mk Try.underlying22 (wfU (by omega) (by omega))
      go_wp2_with (at_delete; refine wpList_delete_own _ rfl _ _ 81 22 rfl 101 lawU Try.underlying81 pgElem bm _ _ rfl hown _ _ rfl hkey ?_; intro w1 hown1 hturn1)
      go_roundw
      case rel => exact ⟨k + 1, by omega, by go_num, HL.out.drop_step HW.out hown1 hturn1.grown, HK.out.grown hturn1.grown (fun b hb => by cases hb; exact .inl HL.out.fbm)⟩
      case measure => simp [intOf]; omega
    · have hkn : k = n := by omega
      subst hkn
      clear hown
      go_wp2
      go_ret
      exact ⟨rfl, F, ⟨bm, blk, HL.out⟩, HK.out, fun b hb => .inl hb⟩

theorem unmap_bad1 {w : World} (v : Value) (f n : Int) (h0 : 0 ≤ f) (h1 : f < 18446744073709551616) (hs : someB f n = false) :
    Calls Try.prog 35 #[v, .int .u64 f, .int .i64 n] w fun e w' => e = .returned (.int .i64 1) ∧ w = w' := by
  go_enter Try.func35, Try.ntmps35
  have HS := Lib.hid hs
  clear hs
  go_wp2_with (go_at_call 61; refine (some_any f n w h0 h1).mono ?_; rw [HS.out]; rintro e w' ⟨rfl, rfl⟩)
  go_ret
  exact ⟨rfl, rfl⟩

theorem unmap_bad30 {w : World} {m bm : Nat} {blk : Int → Nat} {M : PM} {F : Nat → Prop} (h : Lies w m bm blk M F) (f : Int) (n : Nat) (h0 : 0 ≤ f) (hs : someB f n = true) (ha : allB M.keys f n true = false) :
    Calls Try.prog 35 #[.pointer (some ⟨m, 0, none⟩), .int .u64 f, .int .i64 n] w fun e w' => e = .returned (.int .i64 30) ∧ w = w' := by
  have hs' := hs
  simp only [someB, decide_eq_true_eq] at hs'
  obtain ⟨_, hn, hf, hfn⟩ := hs'
  have HS := Lib.hid hs
  have HA := Lib.hid ha
  have H := Lib.hid h
  clear hs ha h
  go_enter Try.func35, Try.ntmps35
  go_wp2_with (first | (go_at_call 61; refine (some_any f n w h0 (by omega)).mono ?_; rw [HS.out]; rintro e w' ⟨rfl, rfl⟩) | (go_at_call 62; refine (all_any H.out f n true h0 (by omega) (by omega)).mono ?_; rw [HA.out]; rintro e w' ⟨rfl, rfl⟩))
  go_ret
  exact ⟨rfl, rfl⟩

theorem unmapE_1 {M : PM} {f n : Int} (hs : someB f n = false) : M.unmapE f n = 1 := by simp [PM.unmapE, hs]
theorem unmapE_30 {M : PM} {f n : Int} (hs : someB f n = true) (ha : allB M.keys f n.toNat true = false) : M.unmapE f n = 30 := by simp [PM.unmapE, hs, ha]
theorem unmapE_0 {M : PM} {f n : Int} (hs : someB f n = true) (ha : allB M.keys f n.toNat true = true) : M.unmapE f n = 0 := by simp [PM.unmapE, hs, ha]
theorem unmap_same {M : PM} {f n : Int} (h : M.unmapE f n ≠ 0) : M.unmap f n = M := by simp [PM.unmap, h]
theorem unmap_drop {M : PM} {f n : Int} (h : M.unmapE f n = 0) : M.unmap f n = M.drop f n.toNat := by simp [PM.unmap, h]

/-- 'Unmap'. -/
theorem unmap_any {w : World} {m : Nat} {M : PM} {F : Nat → Prop} (h : MemAt w m M F) (f n : Int) (h0 : 0 ≤ f) (h1 : f < 18446744073709551616) :
    Calls Try.prog 35 #[.pointer (some ⟨m, 0, none⟩), .int .u64 f, .int .i64 n] w (Does w m F (.int .i64 (M.unmapE f n)) (M.unmap f n)) := by
  by_cases hs : someB f n = true
  · have hs' := hs
    simp only [someB, decide_eq_true_eq] at hs'
    obtain ⟨n, rfl⟩ := Int.eq_ofNat_of_zero_le (show 0 ≤ n by omega)
    by_cases ha : allB M.keys f n true = true
    · have hE := unmapE_0 (M := M) hs (by simpa using ha)
      rw [hE, unmap_drop hE]
      simpa using unmap_ok h f n h0 hs ha
    · have ha : allB M.keys f n true = false := by simpa using ha
      have hE := unmapE_30 (M := M) hs (by simpa using ha)
      rw [hE, unmap_same (by omega)]
      obtain ⟨bm, blk, h'⟩ := id h
      exact (unmap_bad30 h' f n h0 hs ha).mono (fun e w' ⟨he, hw⟩ => Does.same h he (by rw [← hw]; exact Kept.refl _ _))
  · have hs : someB f n = false := by simpa using hs
    have hE := unmapE_1 (M := M) hs
    rw [hE, unmap_same (by omega)]
    exact (unmap_bad1 _ f n h0 h1 hs).mono (fun e w' ⟨he, hw⟩ => Does.same h he (by rw [← hw]; exact Kept.refl _ _))

end Go.Proofs.Ytkmbmbpjppjdjaa
