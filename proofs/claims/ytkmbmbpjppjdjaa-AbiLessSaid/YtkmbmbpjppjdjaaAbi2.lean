/- Walks: which texts and which capabilities may be handed over. -/
import Derived.Test.YtkmbmbpjppjdjaaAbi1
import Derived.Laws.RangeAny
namespace Go.Proofs.Ytkmbmbpjppjdjaa
open Go.RowKit Go.Maps TmP
set_option linter.unusedSimpArgs false
set_option linter.unusedVariables false
set_option maxRecDepth 100000

namespace TmP
/-- A string's bytes. -/
def bsI (s : ByteArray) : List Int := s.data.toList.map fun b => (b.toNat : Int)
theorem bsI_length (s : ByteArray) : (bsI s).length = s.size := by simp [bsI]
theorem bsI_range (s : ByteArray) : ∀ b ∈ bsI s, 0 ≤ b ∧ b ≤ 255 := by
  intro b hb
  obtain ⟨x, _, rfl⟩ := List.mem_map.1 hb
  have := x.toNat_lt
  omega
/-- May a text be one? -/
def textB (s : ByteArray) : Bool := decide (s.size ≤ 200 ∧ ∀ i, (h : i < s.size) → (s[i]'h).toNat ≠ 0)
def safeB (c : Cap) : Bool := !c.tag || (decide (bits .and .i64 c.perms 96 = 0) && !(decide (bits .and .i64 c.perms 2 ≠ 0) && decide (bits .and .i64 c.perms 4 ≠ 0)))
end TmP

theorem get_at' (s : ByteArray) (j : Nat) (h : j < s.size) : s.get! j = s[j]'h := by
  simp [ByteArray.get!, getElem!_pos, h]
  rfl

/-- The bytes of one letter are not 0, but where it is. -/
theorem decode_bytes (s : ByteArray) (pos : Nat) (h : pos < s.size) (ha : 128 ≤ (s[pos]'h).toNat) :
    pos + (Utf8.decode s pos).2 ≤ s.size ∧ ∀ j, (hj : j < s.size) → pos ≤ j → j < pos + (Utf8.decode s pos).2 → (s[j]'hj).toNat ≠ 0 := by
  have hn : ¬ (s[pos]'h).toNat < 128 := by omega
  have hat : ∀ k, (hk : pos + k < s.size) → s.get! (pos + k) = s[pos + k]'hk := fun k hk => get_at' s _ hk
  have one : pos + 1 ≤ s.size ∧ ∀ j, (hj : j < s.size) → pos ≤ j → j < pos + 1 → (s[j]'hj).toNat ≠ 0 := ⟨by omega, fun j hj h1 h2 => by
    obtain rfl : j = pos := by omega
    omega⟩
  simp only [Utf8.decode, get_at s pos h, hn, if_false]
  split
  · rename_i h2
    simp only [Bool.and_eq_true, decide_eq_true_eq, beq_iff_eq] at h2
    split
    · refine ⟨by omega, fun j hj h3 h4 => ?_⟩
      have e1 := hat 1 h2.2.1
      have := h2.2.2
      rw [e1] at this
      by_cases e : j = pos
      · subst e; omega
      · obtain rfl : j = pos + 1 := by simp only at h4; omega
        omega
    · exact one
  · split
    · rename_i h2
      simp only [Bool.and_eq_true, decide_eq_true_eq, beq_iff_eq] at h2
      split
      · refine ⟨by omega, fun j hj h3 h4 => ?_⟩
        have e1 := hat 1 h2.1.2.1
        have e2 := hat 2 h2.2.1
        have a1 := h2.1.2.2
        have a2 := h2.2.2
        rw [e1] at a1
        rw [e2] at a2
        simp only at h4
        rcases (by omega : j = pos ∨ j = pos + 1 ∨ j = pos + 2) with rfl | rfl | rfl <;> omega
      · exact one
    · split
      · rename_i h2
        simp only [Bool.and_eq_true, decide_eq_true_eq, beq_iff_eq] at h2
        split
        · refine ⟨by omega, fun j hj h3 h4 => ?_⟩
          have e1 := hat 1 h2.1.1.2.1
          have e2 := hat 2 h2.1.2.1
          have e3 := hat 3 h2.2.1
          have a1 := h2.1.1.2.2
          have a2 := h2.1.2.2
          have a3 := h2.2.2
          rw [e1] at a1
          rw [e2] at a2
          rw [e3] at a3
          simp only at h4
          rcases (by omega : j = pos ∨ j = pos + 1 ∨ j = pos + 2 ∨ j = pos + 3) with rfl | rfl | rfl | rfl <;> omega
        · exact one
      · exact one

theorem text_any (s : ByteArray) (w : World) (hs : s.size ≤ 140737488355328) : Calls Try.prog 73 #[.string s] w fun e w' => e = .returned (.bool (textB s)) ∧ Kept Non w w' := by
  have hF : ∀ i, (h : i < s.size) → (s[i]'h).toNat = 0 → textB s = false := fun i h h0 => by
    simp only [textB, decide_eq_false_iff_not]
    exact fun hh => hh.2 i h h0
  have hT : (∀ i, (h : i < s.size) → (s[i]'h).toNat ≠ 0) → textB s = decide ((s.size : Int) ≤ 200) := fun h => by
    simp only [textB]
    rw [decide_eq_decide]
    constructor
    · rintro ⟨h1, _⟩; omega
    · exact fun h1 => ⟨by omega, h⟩
  generalize textB s = T at *
  have HF := Lib.hid hF
  have HT := Lib.hid hT
  clear hF hT
  go_enter Try.func73, Try.ntmps73
  go_wp2
  go_loopw [4] (fun _ w' => ∃ pos : Nat, w' = w.iter s pos ∧ pos ≤ s.size ∧ ∀ i, (h : i < s.size) → i < pos → (s[i]'h).toNat ≠ 0) (fun _ w' => s.size - w'.iterPos w.heap.size)
  case atStart => exact ⟨0, rfl, Nat.zero_le _, fun i _ h => by omega⟩
  case round =>
    obtain ⟨pos, rfl, hle, hnz⟩ := hrel
    have HN := Lib.hid hnz
    clear hnz
    by_cases hp : pos < s.size
    · by_cases ha : (s[pos]'hp).toNat < 128
      · have hnx : ∀ ty, (Instr.next (.pointer (some ⟨w.heap.size, 0, none⟩)) true ty).run Try.prog (w.iter s pos) = _ := fun ty => run_next_ascii w s pos ty hp ha
        by_cases h0 : (s[pos]'hp).toNat = 0
        · have HE := HF.out pos hp h0
          rw [h0] at hnx
          go_wp2
          go_ret
          exact ⟨ret_bool HE.symm, (Kept.refl Non w).alloc _⟩
        · have hd : decide ((((s[pos]'hp).toNat : Nat) : Int) = 0) = false := by simp; omega
          generalize hq : (s[pos]'hp).toNat = q at hnx hd
          go_wp2
          go_roundw
          case rel => exact ⟨pos + 1, rfl, by omega, fun i h hi => by
            by_cases e : i = pos
            · subst e; exact h0
            · exact HN.out i h (by omega)⟩
          case measure => simp; omega
      · have hnx : ∀ ty, (Instr.next (.pointer (some ⟨w.heap.size, 0, none⟩)) true ty).run Try.prog (w.iter s pos) = _ := fun ty => run_next_any w s pos ty hp
        have hdb := decode_bytes s pos hp (by omega)
        have hdh := decode_high s pos hp (by omega)
        generalize Utf8.decode s pos = D at hnx hdb hdh
        have hd : decide (((D.1 : Nat) : Int) = 0) = false := by simp; omega
        go_wp2
        go_roundw
        case rel => exact ⟨pos + D.2, rfl, hdb.1, fun i h hi => by
            by_cases e : i < pos
            · exact HN.out i h e
            · exact hdb.2 i h (by omega) hi⟩
        case measure => simp; omega
    · have hnx : ∀ ty, (Instr.next (.pointer (some ⟨w.heap.size, 0, none⟩)) true ty).run Try.prog (w.iter s pos) = _ := fun ty => run_next_end w s pos ty hp
      have HE := HT.out (fun i h => HN.out i h (by omega))
      go_wp2
      go_ret
      exact ⟨ret_bool HE.symm, (Kept.refl Non w).alloc _⟩

end Go.Proofs.Ytkmbmbpjppjdjaa
