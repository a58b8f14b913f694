/- Walks: bytes are put, and read. -/
import Derived.Test.YtkmbmbpjppjdjaaTmW3
namespace Go.Proofs.Ytkmbmbpjppjdjaa
open Go.RowKit Go.Maps TmP
set_option linter.unusedSimpArgs false
set_option linter.unusedVariables false

theorem TmP.putL_snoc : ∀ (l : List Int) (M : PM) (a b : Int), M.putL a (l ++ [b]) = (M.putL a l).put1 (a + l.length) b
  | [], M, a, b => by simp [PM.putL]
  | c :: r, M, a, b => by
    show (M.put1 a c).putL (a + 1) (r ++ [b]) = _
    rw [putL_snoc r (M.put1 a c) (a + 1) b]
    simp only [PM.putL, List.length_cons]
    rw [show a + 1 + (r.length : Int) = a + ((r.length + 1 : Nat) : Int) by omega]

theorem mappedB_iff {keys : List Int} {a : Int} {n : Nat} : mappedB keys a n = true ↔ a + n < 18446744073709551616 ∧ ∀ j : Nat, j < n → (a + (j : Int)) / 256 ∈ keys := by
  simp only [mappedB, Bool.and_eq_true, decide_eq_true_eq, List.all_eq_true, List.mem_range]

theorem Lies.put1 {w : World} {m bm : Nat} {blk : Int → Nat} {M : PM} {F : Nat → Prop} (h : Lies w m bm blk M F) {a : Int} (ha : a / 256 ∈ M.keys) (x : Int) (h0 : 0 ≤ x) (h1 : x ≤ 255) :
    Lies ((w.setCell ⟨blk (a / 256), (a % 256).toNat, none⟩ (.int .u8 x)).setCell ⟨blk (a / 256), 256 + (a % 256 / 32).toNat, none⟩ (.bool false)) m bm blk (M.put1 a x) F :=
  (h.write1 ha x h0 h1).writeT (a := a) ha false

theorem put_bad {w : World} {m bm : Nat} {blk : Int → Nat} {M : PM} {F : Nat → Prop} (h : Lies w m bm blk M F) (a : Int) (ao : Option Addr) (n cap : Nat) (h0 : 0 ≤ a) (h1 : a < 18446744073709551616) (hn : (n : Int) ≤ 9223372036854775807) (hb : mappedB M.keys a n = false) :
    Calls Try.prog 36 #[.pointer (some ⟨m, 0, none⟩), .int .u64 a, .slice ao n cap] w fun e w' => e = .returned (.int .i64 30) ∧ w = w' := by
  have hp := mapped_any h a n h0 h1 hn
  rw [hb] at hp
  clear h hb
  go_enter Try.func36, Try.ntmps36
  go_wp2_with (go_at_call 59; refine hp.mono ?_; rintro e w' ⟨rfl, rfl⟩)
  go_ret
  exact ⟨rfl, rfl⟩

theorem put_none {w : World} {m bm : Nat} {blk : Int → Nat} {M : PM} {F : Nat → Prop} (h : Lies w m bm blk M F) (a : Int) (ao : Option Addr) (cap : Nat) (h0 : 0 ≤ a) (h1 : a < 18446744073709551616) :
    Calls Try.prog 36 #[.pointer (some ⟨m, 0, none⟩), .int .u64 a, .slice ao 0 cap] w fun e w' => e = .returned (.int .i64 0) ∧ w = w' := by
  have hp := mapped_any h a 0 h0 h1 (by omega)
  rw [mappedB_iff.2 ⟨by omega, fun j hj => by omega⟩] at hp
  clear h
  go_enter Try.func36, Try.ntmps36
  go_wp2_with (go_at_call 59; refine hp.mono ?_; rintro e w' ⟨rfl, rfl⟩)
  refine wp_loop_rounds 1 ?_; rw [rounds_succ]
  go_wp2
  go_ret
  exact ⟨rfl, rfl⟩

theorem put_ok {w : World} {m bm : Nat} {blk : Int → Nat} {M : PM} {F : Nat → Prop} (h : Lies w m bm blk M F) (a : Int) (g off cap : Nat) (l : List Int) (h0 : 0 ≤ a) (h1 : a < 18446744073709551616) (hn : (l.length : Int) ≤ 9223372036854775807) (hb : mappedB M.keys a l.length = true)
    (hg : ¬ F g) (hc : ∀ (i : Nat) (x : Int), l[i]? = some x → w.cell? ⟨g, off + i, none⟩ = some (.int .u8 x)) (hr : ∀ b ∈ l, 0 ≤ b ∧ b ≤ 255) :
    Calls Try.prog 36 #[.pointer (some ⟨m, 0, none⟩), .int .u64 a, .slice (some ⟨g, off, none⟩) l.length cap] w fun e w' => e = .returned (.int .i64 0) ∧ Lies w' m bm blk (M.putL a l) F ∧ Kept F w w' := by
  have hp := mapped_any h a l.length h0 h1 hn
  rw [hb] at hp
  obtain ⟨hb1, hb2⟩ := mappedB_iff.1 hb
  have HP := Lib.hid hp
  have H := Lib.hid h
  have HC := Lib.hid hc
  have HB := Lib.hid hb2
  clear hp h hb hb2 hc
  go_enter Try.func36, Try.ntmps36
  go_wp2_with (go_at_call 59; refine HP.out.mono ?_; rintro e w' ⟨rfl, rfl⟩)
  go_loopw [19] (fun i wr => ∃ k : Nat, k ≤ l.length ∧ i = .int .i64 k ∧ Lies wr m bm blk (M.putL a (l.take k)) F ∧ Kept F w wr) (fun i _ => l.length - (intOf i).toNat)
  case atStart => exact ⟨0, Nat.zero_le _, rfl, H.out, Kept.refl _ _⟩
  case round =>
    obtain ⟨k, hk, rfl, hL, hK⟩ := hrel
    by_cases hlt : k < l.length
    · have hcell := hK.cell (HC.out k l[k] (List.getElem?_eq_getElem hlt)) hg
      have hrk := hr l[k] (List.getElem_mem hlt)
      have hpk : (a + (k : Int)) / 256 ∈ (M.putL a (l.take k)).keys := by rw [putL_keys]; exact HB.out k hlt
      have hpl := place_any hL (a + k) (by omega) (by omega)
      rw [show pgPtr (M.putL a (l.take k)).keys blk ((a + (k : Int)) / 256) = .pointer (some ⟨blk ((a + (k : Int)) / 256), 0, none⟩) from if_pos hpk] at hpl
      have hpg := hL.page _ hpk
      have hc1 := hpg.byte (i := ((a + (k : Int)) % 256).toNat) (by omega)
      have hf1 := hpg.free ((a + (k : Int)) % 256).toNat
      have hL1 := hL.write1 hpk l[k] hrk.1 hrk.2
      have hpg1 := hL1.page _ hpk
      have hc2 := hpg1.tag (j := ((a + (k : Int)) % 256 / 32).toNat) (by omega)
      have hf2 := hpg1.free (256 + ((a + (k : Int)) % 256 / 32).toNat)
      have HL2 := Lib.hid (hL.put1 hpk l[k] hrk.1 hrk.2)
      have HK := Lib.hid hK
      have HPL := Lib.hid hpl
      have HF := Lib.hid (hL.fpg _ hpk)
      have hsn := putL_snoc (l.take k) M a l[k]
      rw [show (l.take k).length = k by simp; omega, ← List.take_succ_eq_append_getElem hlt] at hsn
      have HS := Lib.hid hsn
      clear hL hK hpl hpg hpg1 hL1 hsn hpk
      go_wp2_with (go_at_call 60; refine HPL.out.mono ?_; rintro e w' ⟨rfl, rfl⟩)
      go_roundw
      case rel => exact ⟨k + 1, by omega, by go_num, by rw [HS.out]; exact HL2.out, (HK.out.setCell (p := ⟨_, _, none⟩) (.inl HF.out) _).setCell (p := ⟨_, _, none⟩) (.inl HF.out) _⟩
      case measure => simp [intOf]; omega
    · obtain rfl : k = l.length := by omega
      have HL := Lib.hid hL
      have HK := Lib.hid hK
      clear hL hK
      go_wp2
      go_ret
      exact ⟨rfl, by have := HL.out; rwa [List.take_length] at this, HK.out⟩

/-- 'Put'. -/
theorem put_any {w : World} {m : Nat} {M : PM} {F G : Nat → Prop} (h : MemAt w m M F) (a : Int) (v : Value) (l : List Int) (h0 : 0 ≤ a) (h1 : a < 18446744073709551616) (hn : (l.length : Int) ≤ 9223372036854775807)
    (hv : SeqAt (fun b => [Value.int .u8 b]) 1 w v l G) (hd : ∀ k, G k → ¬ F k) (hr : ∀ b ∈ l, 0 ≤ b ∧ b ≤ 255) :
    Calls Try.prog 36 #[.pointer (some ⟨m, 0, none⟩), .int .u64 a, v] w (DoesF w m F (.int .i64 (M.putE a l)) (M.put a l)) := by
  obtain ⟨bm, blk, h⟩ := h
  obtain ⟨ao, cap, rfl, hcap, hv⟩ := hv
  by_cases hb : mappedB M.keys a l.length = true
  · rcases hv with rfl | ⟨g, off, rfl, hg, hlt, hc⟩
    · refine (put_none h a ao cap h0 h1).mono (fun e w' ⟨he, hw⟩ => ⟨?_, ⟨bm, blk, ?_⟩, by rw [← hw]; exact Kept.refl _ _⟩)
      · have hb' : mappedB M.keys a 0 = true := hb
        simpa [PM.putE, hb'] using he
      · rw [← hw]; simpa [PM.put, PM.putL] using h
    · refine (put_ok h a g off cap l h0 h1 hn hb (hd g hg) (fun i x hx => by simpa using hc i x hx 0 _ rfl) hr).mono (fun e w' ⟨he, hl, hk⟩ => ⟨?_, ⟨bm, blk, ?_⟩, hk⟩)
      · simpa [PM.putE, hb] using he
      · simpa [PM.put, hb] using hl
  · have hb : mappedB M.keys a l.length = false := by simpa using hb
    refine (put_bad h a ao l.length cap h0 h1 hn hb).mono (fun e w' ⟨he, hw⟩ => ⟨?_, ⟨bm, blk, ?_⟩, by rw [← hw]; exact Kept.refl _ _⟩)
    · simpa [PM.putE, hb] using he
    · rw [← hw]; simpa [PM.put, hb] using h

theorem bytes_bad {w : World} (v : Value) (a n : Int) (hn : n < 1 ∨ 65536 < n) :
    Calls Try.prog 33 #[v, .int .u64 a, .int .i64 n] w fun e w' => e = .returned (.slice none 0 0) ∧ w = w' := by
  rcases hn with hn | hn
  · have hd : decide (n < 1) = true := by simpa using hn
    go_enter Try.func33, Try.ntmps33
    go_wp2
    go_ret
    exact ⟨rfl, rfl⟩
  · have hd : decide (n < 1) = false := by simp; omega
    have hd2 : decide (65536 < n) = true := by simpa using hn
    go_enter Try.func33, Try.ntmps33
    go_wp2
    go_ret
    exact ⟨rfl, rfl⟩

theorem bytes_out {w : World} {m bm : Nat} {blk : Int → Nat} {M : PM} {F : Nat → Prop} (h : Lies w m bm blk M F) (a : Int) (n : Nat) (h0 : 0 ≤ a) (h1 : a < 18446744073709551616) (hn : 1 ≤ n) (hn2 : n ≤ 65536) (hb : mappedB M.keys a n = false) :
    Calls Try.prog 33 #[.pointer (some ⟨m, 0, none⟩), .int .u64 a, .int .i64 n] w fun e w' => e = .returned (.slice none 0 0) ∧ w = w' := by
  have hp := mapped_any h a n h0 h1 (by omega)
  rw [hb] at hp
  have hd : decide ((n : Int) < 1) = false := by simp; omega
  have hd2 : decide ((65536 : Int) < n) = false := by simp; omega
  clear h hb
  go_enter Try.func33, Try.ntmps33
  go_wp2_with (go_at_call 59; refine hp.mono ?_; rintro e w' ⟨rfl, rfl⟩)
  go_ret
  exact ⟨rfl, rfl⟩

set_option maxRecDepth 100000 in
theorem bytes_ok {w : World} {m bm : Nat} {blk : Int → Nat} {M : PM} {F : Nat → Prop} (h : Lies w m bm blk M F) (a : Int) (n : Nat) (h0 : 0 ≤ a) (h1 : a < 18446744073709551616) (hn : 1 ≤ n) (hn2 : n ≤ 65536) (hb : mappedB M.keys a n = true) :
    Calls Try.prog 33 #[.pointer (some ⟨m, 0, none⟩), .int .u64 a, .int .i64 n] w fun e w' => ∃ v, e = .returned v ∧ w'.ownsRow w.heap.size 5 1 v n ((M.get a n).map (Value.int .u8)) ∧ Kept Non w w' := by
  have hp := mapped_any h a n h0 h1 (by omega)
  rw [hb] at hp
  obtain ⟨hb1, hb2⟩ := mappedB_iff.1 hb
  have hd : decide ((n : Int) < 1) = false := by simp; omega
  have hd2 : decide ((65536 : Int) < n) = false := by simp; omega
  obtain ⟨i0, hi, hz0, hz1, hz2⟩ := info_parts infoU8
  have HP := Lib.hid hp
  have H := Lib.hid h
  have HB := Lib.hid hb2
  clear h hp hb hb2
  go_enter Try.func33, Try.ntmps33
  go_wp2_with (go_at_call 59; refine HP.out.mono ?_; rintro e w' ⟨rfl, rfl⟩)
  go_loopw [7, 25] (fun v i wr => ∃ k : Nat, k ≤ n ∧ i = .int .i64 k ∧ wr.ownsRow w.heap.size 5 1 v k ((M.get a k).map (Value.int .u8)) ∧ Kept Non w wr) (fun _ i _ => n - (intOf i).toNat)
  case atStart => exact ⟨0, Nat.zero_le _, rfl, World.ownsRow_nil _ _ _ _, Kept.refl _ _⟩
  case round =>
    obtain ⟨k, hk, rfl, hown, hK⟩ := hrel
    by_cases hlt : k < n
    · have hpk : (a + (k : Int)) / 256 ∈ M.keys := HB.out k hlt
      have hL := H.out.kept0 hK
      have hpl := place_any hL (a + k) (by omega) (by omega)
      rw [show pgPtr M.keys blk ((a + (k : Int)) / 256) = .pointer (some ⟨blk ((a + (k : Int)) / 256), 0, none⟩) from if_pos hpk] at hpl
      have hc1 := (hL.page _ hpk).byte (i := ((a + (k : Int)) % 256).toNat) (by omega)
      rw [show 256 * ((a + (k : Int)) / 256) + ((((a + (k : Int)) % 256).toNat : Nat) : Int) = a + k by omega] at hc1
      have HPL := Lib.hid hpl
      have HK := Lib.hid hK
      clear hL hpl hpk
      go_wp2_with (first | (go_at_call 60; refine HPL.out.mono ?_; rintro e w' ⟨rfl, rfl⟩) | (at_builtin; refine wpList_push w _ _ Non HK.out rfl _ _ 63 rfl 5 i0 (.int .u8 0) 1 1 Try.underlying63 hi hz0 hz1 hz2 rfl (by decide) _ _ _ hown rfl rfl rfl (by simp [Value.oneCell']) (by unfold maxLen; omega) (by omega) ?_; intro v1 w1 hown1 hK1 _))
      go_roundw
      case rel => exact ⟨k + 1, by omega, by go_num, by rw [get_snoc]; simpa using hown1, hK1⟩
      case measure => simp [intOf]; omega
    · obtain rfl : k = n := by omega
      have HO := Lib.hid hown
      have HK := Lib.hid hK
      clear hown hK
      go_wp2
      go_ret
      exact ⟨_, rfl, HO.out, HK.out⟩

/-- 'Bytes'. -/
theorem bytes_any {w : World} {m : Nat} {M : PM} {F : Nat → Prop} (h : MemAt w m M F) (a n : Int) (h0 : 0 ≤ a) (h1 : a < 18446744073709551616) :
    Calls Try.prog 33 #[.pointer (some ⟨m, 0, none⟩), .int .u64 a, .int .i64 n] w fun e w' => ∃ v, e = .returned v ∧ w'.ownsRow w.heap.size 5 1 v (M.bytes a n).length ((M.bytes a n).map (Value.int .u8)) ∧ Kept Non w w' := by
  obtain ⟨bm, blk, h⟩ := h
  by_cases hn : n < 1 ∨ 65536 < n
  · have e : M.bytes a n = [] := by
      unfold PM.bytes
      rw [if_pos (by rcases hn with hn | hn <;> simp [hn])]
    rw [e]
    exact (bytes_bad _ a n hn).mono (fun e w' ⟨he, hw⟩ => ⟨_, he, by rw [← hw]; exact World.ownsRow_nil _ _ _ _, by rw [← hw]; exact Kept.refl _ _⟩)
  · obtain ⟨n, rfl⟩ := Int.eq_ofNat_of_zero_le (show 0 ≤ n by omega)
    by_cases hb : mappedB M.keys a n = true
    · have e : M.bytes a n = M.get a n := by
        unfold PM.bytes
        rw [if_neg]
        · simp
        · simp [hb]
          omega
      rw [e, length_get]
      exact bytes_ok h a n h0 h1 (by omega) (by omega) hb
    · have hb : mappedB M.keys a n = false := by simpa using hb
      have e : M.bytes a n = [] := by
        unfold PM.bytes
        rw [if_pos]
        simp [hb]
      rw [e]
      exact (bytes_out h a n h0 h1 (by omega) (by omega) hb).mono (fun e w' ⟨he, hw⟩ => ⟨_, he, by rw [← hw]; exact World.ownsRow_nil _ _ _ _, by rw [← hw]; exact Kept.refl _ _⟩)

end Go.Proofs.Ytkmbmbpjppjdjaa
