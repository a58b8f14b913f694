/- Walks: what tagmem's small functions answer. -/
import Derived.Test.YtkmbmbpjppjdjaaTm
namespace Go.Proofs.Ytkmbmbpjppjdjaa
open Go.RowKit Go.Maps TmP
set_option linter.unusedSimpArgs false
set_option linter.unusedVariables false

theorem some_any (f n : Int) (w : World) (h0 : 0 ≤ f) (h1 : f < 18446744073709551616) :
    Calls Try.prog 61 #[.int .u64 f, .int .i64 n] w fun e w' => e = .returned (.bool (someB f n)) ∧ w = w' := by
  go_enter Try.func61, Try.ntmps61
  go_wp2
  all_goals (go_ret; exact ⟨ret_bool (by rw [Bool.eq_iff_iff]; simp [someB]; omega), rfl⟩)

theorem place_any {w : World} {m bm : Nat} {blk : Int → Nat} {M : PM} {F : Nat → Prop} (h : Lies w m bm blk M F) (a : Int) (h0 : 0 ≤ a) (h1 : a < 18446744073709551616) :
    Calls Try.prog 60 #[.pointer (some ⟨m, 0, none⟩), .int .u64 a] w fun e w' => e = .returned (.tuple #[pgPtr M.keys blk (a / 256), .int .i64 (a % 256)]) ∧ w = w' := by
  have c0 := h.c0
  have hl := h.look (k := a / 256) (by omega) (by omega)
  clear h
  go_enter Try.func60, Try.ntmps60
  go_wp2
  go_ret2
  exact ⟨rfl, rfl⟩

/-- What number answers. -/
def numR (keys : List Int) (blk : Int → Nat) (a n : Int) : Value :=
  .tuple #[if numE keys a n = 0 then .pointer (some ⟨blk (a / 256), 0, none⟩) else .pointer none, .int .i64 (if numE keys a n = 0 then a % 256 else 0), .int .i64 (numE keys a n)]
theorem numR_bad {keys : List Int} {blk : Int → Nat} {a n E : Int} (h : numE keys a n = E) (h0 : E ≠ 0) : numR keys blk a n = .tuple #[.pointer none, .int .i64 0, .int .i64 E] := by
  subst h; simp [numR, h0]
theorem numR_ok {keys : List Int} {blk : Int → Nat} {a n : Int} (h : numE keys a n = 0) : numR keys blk a n = .tuple #[.pointer (some ⟨blk (a / 256), 0, none⟩), .int .i64 (a % 256), .int .i64 0] := by
  simp [numR, h]

theorem bne_t {a b : Int} (h : a ≠ b) : (a != b) = true := by simpa using h
theorem bne_f {a b : Int} (h : a = b) : (a != b) = false := by simpa using h

theorem number_1 {w : World} {m bm : Nat} {blk : Int → Nat} {M : PM} {F : Nat → Prop} (h : Lies w m bm blk M F) (a : Int) (h0 : 0 ≤ a) (h1 : a < 18446744073709551616) :
    Calls Try.prog 58 #[.pointer (some ⟨m, 0, none⟩), .int .u64 a, .int .i64 1] w fun e w' => e = .returned (numR M.keys blk a 1) ∧ w = w' := by
  have hp := place_any (w := w) h a h0 h1
  clear h
  by_cases hk : a / 256 ∈ M.keys
  · rw [show pgPtr M.keys blk (a / 256) = .pointer (some ⟨blk (a / 256), 0, none⟩) from if_pos hk] at hp
    by_cases ha : a % 1 = 0
    · have HE := Lib.hid (numR_ok (keys := M.keys) (blk := blk) (a := a) (n := 1) (by simp [numE, ha, hk]))
      have hb := bne_f ha
      clear ha hk
      go_enter Try.func58, Try.ntmps58
      go_wp2_with (go_at_call 60; refine hp.mono ?_; rintro e w' ⟨rfl, rfl⟩)
      go_ret3
      exact ⟨by rw [HE.out]; rfl, rfl⟩
    · omega
  · rw [show pgPtr M.keys blk (a / 256) = .pointer none from if_neg hk] at hp
    by_cases ha : a % 1 = 0
    · have HE := Lib.hid (numR_bad (keys := M.keys) (blk := blk) (a := a) (n := 1) (E := 30) (by simp [numE, ha, hk]) (by decide))
      have hb := bne_f ha
      clear ha hk
      go_enter Try.func58, Try.ntmps58
      go_wp2_with (go_at_call 60; refine hp.mono ?_; rintro e w' ⟨rfl, rfl⟩)
      go_ret3
      exact ⟨by rw [HE.out]; rfl, rfl⟩
    · omega

theorem number_2 {w : World} {m bm : Nat} {blk : Int → Nat} {M : PM} {F : Nat → Prop} (h : Lies w m bm blk M F) (a : Int) (h0 : 0 ≤ a) (h1 : a < 18446744073709551616) :
    Calls Try.prog 58 #[.pointer (some ⟨m, 0, none⟩), .int .u64 a, .int .i64 2] w fun e w' => e = .returned (numR M.keys blk a 2) ∧ w = w' := by
  have hp := place_any (w := w) h a h0 h1
  clear h
  by_cases hk : a / 256 ∈ M.keys
  · rw [show pgPtr M.keys blk (a / 256) = .pointer (some ⟨blk (a / 256), 0, none⟩) from if_pos hk] at hp
    by_cases ha : a % 2 = 0
    · have HE := Lib.hid (numR_ok (keys := M.keys) (blk := blk) (a := a) (n := 2) (by simp [numE, ha, hk]))
      have hb := bne_f ha
      clear ha hk
      go_enter Try.func58, Try.ntmps58
      go_wp2_with (go_at_call 60; refine hp.mono ?_; rintro e w' ⟨rfl, rfl⟩)
      go_ret3
      exact ⟨by rw [HE.out]; rfl, rfl⟩
    · have HE := Lib.hid (numR_bad (keys := M.keys) (blk := blk) (a := a) (n := 2) (E := 31) (by simp [numE, ha]) (by decide))
      have hb := bne_t ha
      clear ha hk
      go_enter Try.func58, Try.ntmps58
      go_wp2
      go_ret3
      exact ⟨by rw [HE.out]; rfl, rfl⟩
  · rw [show pgPtr M.keys blk (a / 256) = .pointer none from if_neg hk] at hp
    by_cases ha : a % 2 = 0
    · have HE := Lib.hid (numR_bad (keys := M.keys) (blk := blk) (a := a) (n := 2) (E := 30) (by simp [numE, ha, hk]) (by decide))
      have hb := bne_f ha
      clear ha hk
      go_enter Try.func58, Try.ntmps58
      go_wp2_with (go_at_call 60; refine hp.mono ?_; rintro e w' ⟨rfl, rfl⟩)
      go_ret3
      exact ⟨by rw [HE.out]; rfl, rfl⟩
    · have HE := Lib.hid (numR_bad (keys := M.keys) (blk := blk) (a := a) (n := 2) (E := 31) (by simp [numE, ha]) (by decide))
      have hb := bne_t ha
      clear ha hk
      go_enter Try.func58, Try.ntmps58
      go_wp2
      go_ret3
      exact ⟨by rw [HE.out]; rfl, rfl⟩

theorem number_4 {w : World} {m bm : Nat} {blk : Int → Nat} {M : PM} {F : Nat → Prop} (h : Lies w m bm blk M F) (a : Int) (h0 : 0 ≤ a) (h1 : a < 18446744073709551616) :
    Calls Try.prog 58 #[.pointer (some ⟨m, 0, none⟩), .int .u64 a, .int .i64 4] w fun e w' => e = .returned (numR M.keys blk a 4) ∧ w = w' := by
  have hp := place_any (w := w) h a h0 h1
  clear h
  by_cases hk : a / 256 ∈ M.keys
  · rw [show pgPtr M.keys blk (a / 256) = .pointer (some ⟨blk (a / 256), 0, none⟩) from if_pos hk] at hp
    by_cases ha : a % 4 = 0
    · have HE := Lib.hid (numR_ok (keys := M.keys) (blk := blk) (a := a) (n := 4) (by simp [numE, ha, hk]))
      have hb := bne_f ha
      clear ha hk
      go_enter Try.func58, Try.ntmps58
      go_wp2_with (go_at_call 60; refine hp.mono ?_; rintro e w' ⟨rfl, rfl⟩)
      go_ret3
      exact ⟨by rw [HE.out]; rfl, rfl⟩
    · have HE := Lib.hid (numR_bad (keys := M.keys) (blk := blk) (a := a) (n := 4) (E := 31) (by simp [numE, ha]) (by decide))
      have hb := bne_t ha
      clear ha hk
      go_enter Try.func58, Try.ntmps58
      go_wp2
      go_ret3
      exact ⟨by rw [HE.out]; rfl, rfl⟩
  · rw [show pgPtr M.keys blk (a / 256) = .pointer none from if_neg hk] at hp
    by_cases ha : a % 4 = 0
    · have HE := Lib.hid (numR_bad (keys := M.keys) (blk := blk) (a := a) (n := 4) (E := 30) (by simp [numE, ha, hk]) (by decide))
      have hb := bne_f ha
      clear ha hk
      go_enter Try.func58, Try.ntmps58
      go_wp2_with (go_at_call 60; refine hp.mono ?_; rintro e w' ⟨rfl, rfl⟩)
      go_ret3
      exact ⟨by rw [HE.out]; rfl, rfl⟩
    · have HE := Lib.hid (numR_bad (keys := M.keys) (blk := blk) (a := a) (n := 4) (E := 31) (by simp [numE, ha]) (by decide))
      have hb := bne_t ha
      clear ha hk
      go_enter Try.func58, Try.ntmps58
      go_wp2
      go_ret3
      exact ⟨by rw [HE.out]; rfl, rfl⟩

theorem number_8 {w : World} {m bm : Nat} {blk : Int → Nat} {M : PM} {F : Nat → Prop} (h : Lies w m bm blk M F) (a : Int) (h0 : 0 ≤ a) (h1 : a < 18446744073709551616) :
    Calls Try.prog 58 #[.pointer (some ⟨m, 0, none⟩), .int .u64 a, .int .i64 8] w fun e w' => e = .returned (numR M.keys blk a 8) ∧ w = w' := by
  have hp := place_any (w := w) h a h0 h1
  clear h
  by_cases hk : a / 256 ∈ M.keys
  · rw [show pgPtr M.keys blk (a / 256) = .pointer (some ⟨blk (a / 256), 0, none⟩) from if_pos hk] at hp
    by_cases ha : a % 8 = 0
    · have HE := Lib.hid (numR_ok (keys := M.keys) (blk := blk) (a := a) (n := 8) (by simp [numE, ha, hk]))
      have hb := bne_f ha
      clear ha hk
      go_enter Try.func58, Try.ntmps58
      go_wp2_with (go_at_call 60; refine hp.mono ?_; rintro e w' ⟨rfl, rfl⟩)
      go_ret3
      exact ⟨by rw [HE.out]; rfl, rfl⟩
    · have HE := Lib.hid (numR_bad (keys := M.keys) (blk := blk) (a := a) (n := 8) (E := 31) (by simp [numE, ha]) (by decide))
      have hb := bne_t ha
      clear ha hk
      go_enter Try.func58, Try.ntmps58
      go_wp2
      go_ret3
      exact ⟨by rw [HE.out]; rfl, rfl⟩
  · rw [show pgPtr M.keys blk (a / 256) = .pointer none from if_neg hk] at hp
    by_cases ha : a % 8 = 0
    · have HE := Lib.hid (numR_bad (keys := M.keys) (blk := blk) (a := a) (n := 8) (E := 30) (by simp [numE, ha, hk]) (by decide))
      have hb := bne_f ha
      clear ha hk
      go_enter Try.func58, Try.ntmps58
      go_wp2_with (go_at_call 60; refine hp.mono ?_; rintro e w' ⟨rfl, rfl⟩)
      go_ret3
      exact ⟨by rw [HE.out]; rfl, rfl⟩
    · have HE := Lib.hid (numR_bad (keys := M.keys) (blk := blk) (a := a) (n := 8) (E := 31) (by simp [numE, ha]) (by decide))
      have hb := bne_t ha
      clear ha hk
      go_enter Try.func58, Try.ntmps58
      go_wp2
      go_ret3
      exact ⟨by rw [HE.out]; rfl, rfl⟩

theorem number_none (w : World) (keys : List Int) (blk : Int → Nat) (v : Value) (a n : Int) (h1 : n ≠ 1) (h2 : n ≠ 2) (h4 : n ≠ 4) (h8 : n ≠ 8) :
    Calls Try.prog 58 #[v, .int .u64 a, .int .i64 n] w fun e w' => e = .returned (numR keys blk a n) ∧ w = w' := by
  have b1 : (n != 1) = true := by simpa using h1
  have b2 : (n != 2) = true := by simpa using h2
  have b4 : (n != 4) = true := by simpa using h4
  have b8 : (n != 8) = true := by simpa using h8
  have HE := Lib.hid (numR_bad (keys := keys) (blk := blk) (a := a) (n := n) (E := 1) (by simp [numE, h1, h2, h4, h8]) (by decide))
  clear h1 h2 h4 h8
  go_enter Try.func58, Try.ntmps58
  go_wp2
  go_ret3
  exact ⟨by rw [HE.out]; rfl, rfl⟩

theorem number_any {w : World} {m bm : Nat} {blk : Int → Nat} {M : PM} {F : Nat → Prop} (h : Lies w m bm blk M F) (a n : Int) (h0 : 0 ≤ a) (h1 : a < 18446744073709551616) :
    Calls Try.prog 58 #[.pointer (some ⟨m, 0, none⟩), .int .u64 a, .int .i64 n] w fun e w' => e = .returned (numR M.keys blk a n) ∧ w = w' := by
  by_cases hn : n = 1 ∨ n = 2 ∨ n = 4 ∨ n = 8
  · rcases hn with rfl | rfl | rfl | rfl
    · exact number_1 h a h0 h1
    · exact number_2 h a h0 h1
    · exact number_4 h a h0 h1
    · exact number_8 h a h0 h1
  · simp only [not_or] at hn
    exact number_none w _ _ _ a n hn.1 hn.2.1 hn.2.2.1 hn.2.2.2

/-- What granule answers. -/
def granR (keys : List Int) (blk : Int → Nat) (a : Int) : Value :=
  .tuple #[if granE keys a = 0 then .pointer (some ⟨blk (a / 256), 0, none⟩) else .pointer none, .int .i64 (if granE keys a = 0 then a % 256 else 0), .int .i64 (granE keys a)]
theorem granR_bad {keys : List Int} {blk : Int → Nat} {a E : Int} (h : granE keys a = E) (h0 : E ≠ 0) : granR keys blk a = .tuple #[.pointer none, .int .i64 0, .int .i64 E] := by
  subst h; simp [granR, h0]
theorem granR_ok {keys : List Int} {blk : Int → Nat} {a : Int} (h : granE keys a = 0) : granR keys blk a = .tuple #[.pointer (some ⟨blk (a / 256), 0, none⟩), .int .i64 (a % 256), .int .i64 0] := by
  simp [granR, h]

theorem granule_any {w : World} {m bm : Nat} {blk : Int → Nat} {M : PM} {F : Nat → Prop} (h : Lies w m bm blk M F) (a : Int) (h0 : 0 ≤ a) (h1 : a < 18446744073709551616) :
    Calls Try.prog 55 #[.pointer (some ⟨m, 0, none⟩), .int .u64 a] w fun e w' => e = .returned (granR M.keys blk a) ∧ w = w' := by
  have hp := place_any (w := w) h a h0 h1
  clear h
  by_cases ha : a % 32 = 0
  · by_cases hk : a / 256 ∈ M.keys
    · rw [show pgPtr M.keys blk (a / 256) = .pointer (some ⟨blk (a / 256), 0, none⟩) from if_pos hk] at hp
      have HE := Lib.hid (granR_ok (keys := M.keys) (blk := blk) (a := a) (by simp [granE, ha, hk]))
      have hb := bne_f ha
      clear ha hk
      go_enter Try.func55, Try.ntmps55
      go_wp2_with (go_at_call 60; refine hp.mono ?_; rintro e w' ⟨rfl, rfl⟩)
      go_ret3
      exact ⟨by rw [HE.out]; rfl, rfl⟩
    · rw [show pgPtr M.keys blk (a / 256) = .pointer none from if_neg hk] at hp
      have HE := Lib.hid (granR_bad (keys := M.keys) (blk := blk) (a := a) (E := 30) (by simp [granE, ha, hk]) (by decide))
      have hb := bne_f ha
      clear ha hk
      go_enter Try.func55, Try.ntmps55
      go_wp2_with (go_at_call 60; refine hp.mono ?_; rintro e w' ⟨rfl, rfl⟩)
      go_ret3
      exact ⟨by rw [HE.out]; rfl, rfl⟩
  · have HE := Lib.hid (granR_bad (keys := M.keys) (blk := blk) (a := a) (E := 31) (by simp [granE, ha]) (by decide))
    have hb := bne_t ha
    clear ha
    go_enter Try.func55, Try.ntmps55
    go_wp2
    go_ret3
    exact ⟨by rw [HE.out]; rfl, rfl⟩

theorem allB_true {keys : List Int} {f : Int} {n : Nat} {b : Bool} (h : ∀ j : Nat, j < n → decide (f + (j : Int) ∈ keys) = b) : allB keys f n b = true := by
  simp only [allB, List.all_eq_true, List.mem_range, beq_iff_eq]
  exact h
theorem allB_false {keys : List Int} {f : Int} {n : Nat} {b : Bool} {j : Nat} (hj : j < n) (h : decide (f + (j : Int) ∈ keys) ≠ b) : allB keys f n b = false := by
  simp only [allB, List.all_eq_false, List.mem_range, beq_iff_eq]
  exact ⟨j, hj, h⟩

theorem all_any {w : World} {m bm : Nat} {blk : Int → Nat} {M : PM} {F : Nat → Prop} (h : Lies w m bm blk M F) (f : Int) (n : Nat) (b : Bool) (h0 : 0 ≤ f) (h1 : f < 65536) (hn : n ≤ 65536) :
    Calls Try.prog 62 #[.pointer (some ⟨m, 0, none⟩), .int .u64 f, .int .i64 n, .bool b] w fun e w' => e = .returned (.bool (allB M.keys f n b)) ∧ w = w' := by
  have c0 := h.c0
  go_enter Try.func62, Try.ntmps62
  go_wp2
  go_loop [13] (fun i => ∃ k : Nat, k ≤ n ∧ i = .int .i64 k ∧ Hid (∀ j : Nat, j < k → decide (f + (j : Int) ∈ M.keys) = b)) (fun i => n - (intOf i).toNat)
  case atStart => exact ⟨0, Nat.zero_le _, rfl, Lib.hid (fun j hj => by omega)⟩
  case round =>
    obtain ⟨k, hk, rfl, hall⟩ := hrel
    have hl := h.look_ok (k := f + k) (by omega) (by omega)
    by_cases hlt : k < n
    · by_cases hb : decide (f + (k : Int) ∈ M.keys) = b
      · have HB := Lib.hid hb
        rw [hb] at hl
        clear hb
        go_wp2
        go_round
        case rel => exact ⟨k + 1, by omega, by go_num, Lib.hid (fun j hj => by
          by_cases e : j = k
          · subst e; exact HB.out
          · exact hall.out j (by omega))⟩
        case measure => simp [intOf]; omega
      · have HB := Lib.hid (allB_false (keys := M.keys) (f := f) hlt hb)
        have hb' : decide (f + (k : Int) ∈ M.keys) = !b := by cases b <;> simp_all
        rw [hb'] at hl
        clear hb hb'
        go_wp2
        go_ret
        exact ⟨ret_bool HB.out.symm, rfl⟩
    · have hkn : k = n := by omega
      subst hkn
      have HB := Lib.hid (allB_true (keys := M.keys) (f := f) hall.out)
      clear hl
      go_wp2
      go_ret
      exact ⟨ret_bool HB.out.symm, rfl⟩

theorem mappedB_true {keys : List Int} {a : Int} {n : Nat} (h0 : a + n < 18446744073709551616) (h : ∀ j : Nat, j < n → (a + (j : Int)) / 256 ∈ keys) : mappedB keys a n = true := by
  simp only [mappedB, Bool.and_eq_true, decide_eq_true_eq, List.all_eq_true, List.mem_range]
  exact ⟨h0, h⟩
theorem mappedB_false {keys : List Int} {a : Int} {n j : Nat} (hj : j < n) (h : (a + (j : Int)) / 256 ∉ keys) : mappedB keys a n = false := by
  have : (List.range n).all (fun i => decide ((a + (i : Int)) / 256 ∈ keys)) = false := by
    simp only [List.all_eq_false, List.mem_range, decide_eq_true_eq]
    exact ⟨j, hj, h⟩
  simp [mappedB, this]
theorem mappedB_far {keys : List Int} {a : Int} {n : Nat} (h0 : ¬ a + n < 18446744073709551616) : mappedB keys a n = false := by simp [mappedB, h0]

theorem mapped_far {w : World} {m bm : Nat} {blk : Int → Nat} {M : PM} {F : Nat → Prop} (h : Lies w m bm blk M F) (a : Int) (n : Nat) (h0 : 0 ≤ a) (h1 : a < 18446744073709551616) (hn : (n : Int) ≤ 9223372036854775807) (hf : ¬ a + n < 18446744073709551616) :
    Calls Try.prog 59 #[.pointer (some ⟨m, 0, none⟩), .int .u64 a, .int .i64 n] w fun e w' => e = .returned (.bool (mappedB M.keys a n)) ∧ w = w' := by
  have HB := Lib.hid (mappedB_far (keys := M.keys) hf)
  have e1 : IntKind.u64.wrap (a + n) = a + n - 18446744073709551616 := by rw [IntKind.wrap_u64]; omega
  clear h
  go_enter Try.func59, Try.ntmps59
  go_wp2
  go_ret
  exact ⟨ret_bool HB.out.symm, rfl⟩

theorem mapped_near {w : World} {m bm : Nat} {blk : Int → Nat} {M : PM} {F : Nat → Prop} (h : Lies w m bm blk M F) (a : Int) (n : Nat) (h0 : 0 ≤ a) (h1 : a < 18446744073709551616) (hn : (n : Int) ≤ 9223372036854775807) (hf : a + n < 18446744073709551616) :
    Calls Try.prog 59 #[.pointer (some ⟨m, 0, none⟩), .int .u64 a, .int .i64 n] w fun e w' => e = .returned (.bool (mappedB M.keys a n)) ∧ w = w' := by
  have hge : decide (a + (n : Int) < a) = false := by simp; omega
  go_enter Try.func59, Try.ntmps59
  go_wp2
  go_loop [7] (fun i => ∃ k : Nat, k ≤ n ∧ i = .int .u64 k ∧ Hid (∀ j : Nat, j < k → (a + (j : Int)) / 256 ∈ M.keys)) (fun i => n - (intOf i).toNat)
  case atStart => exact ⟨0, Nat.zero_le _, rfl, Lib.hid (fun j hj => by omega)⟩
  case round =>
    obtain ⟨k, hk, rfl, hall⟩ := hrel
    by_cases hlt : k < n
    · have hp := place_any (w := w) h (a + k) (by omega) (by omega)
      by_cases hb : (a + (k : Int)) / 256 ∈ M.keys
      · rw [show pgPtr M.keys blk ((a + (k : Int)) / 256) = .pointer (some ⟨blk ((a + (k : Int)) / 256), 0, none⟩) from if_pos hb] at hp
        have HB := Lib.hid hb
        have HP := Lib.hid hp
        clear hb hp
        go_wp2_with (go_at_call 60; refine HP.out.mono ?_; rintro e w' ⟨rfl, rfl⟩)
        go_round
        case rel => exact ⟨k + 1, by omega, by go_num, Lib.hid (fun j hj => by
          by_cases e : j = k
          · subst e; exact HB.out
          · exact hall.out j (by omega))⟩
        case measure => simp [intOf]; omega
      · rw [show pgPtr M.keys blk ((a + (k : Int)) / 256) = .pointer none from if_neg hb] at hp
        have HB := Lib.hid (mappedB_false (keys := M.keys) (a := a) hlt hb)
        have HP := Lib.hid hp
        clear hb hp
        go_wp2_with (go_at_call 60; refine HP.out.mono ?_; rintro e w' ⟨rfl, rfl⟩)
        go_ret
        exact ⟨ret_bool HB.out.symm, rfl⟩
    · have hkn : k = n := by omega
      subst hkn
      have HB := Lib.hid (mappedB_true (keys := M.keys) hf hall.out)
      go_wp2
      go_ret
      exact ⟨ret_bool HB.out.symm, rfl⟩

theorem mapped_any {w : World} {m bm : Nat} {blk : Int → Nat} {M : PM} {F : Nat → Prop} (h : Lies w m bm blk M F) (a : Int) (n : Nat) (h0 : 0 ≤ a) (h1 : a < 18446744073709551616) (hn : (n : Int) ≤ 9223372036854775807) :
    Calls Try.prog 59 #[.pointer (some ⟨m, 0, none⟩), .int .u64 a, .int .i64 n] w fun e w' => e = .returned (.bool (mappedB M.keys a n)) ∧ w = w' := by
  by_cases hf : a + n < 18446744073709551616
  · exact mapped_near h a n h0 h1 hn hf
  · exact mapped_far h a n h0 h1 hn hf

end Go.Proofs.Ytkmbmbpjppjdjaa
