/- Walks: may these be capabilities (layer 2's 'Right', and all of them); what a program begins with, as a list. -/
import Derived.Test.YtkmbmbpjppjdjaaAwk
namespace Go.Proofs.Ytkmbmbpjppjdjaa
open Go.RowKit Go.Maps TmP
set_option linter.unusedSimpArgs false
set_option linter.unusedVariables false
set_option maxRecDepth 100000

namespace TmP
def okR (c : Cap) : Bool := decide (0 ≤ c.perms ∧ c.perms ≤ 255 ∧ -1 ≤ c.typ ∧ c.typ ≤ 63)
end TmP

theorem right02_any (c : Cap) (w : World) : Calls Try.prog 28 #[capV c] w fun e w' => e = .returned (.bool (okR c)) ∧ Kept Non w w' := by
  obtain ⟨b, t, a, p, y, g⟩ := c
  simp only [capV, okR]
  by_cases h1 : 0 ≤ p
  · have d1 : decide (0 ≤ p) = true := decide_eq_true h1
    by_cases h2 : p ≤ 255
    · have d2 : decide (p ≤ 255) = true := decide_eq_true h2
      by_cases h3 : -1 ≤ y
      · have d3 : decide (-1 ≤ y) = true := decide_eq_true h3
        by_cases h4 : y ≤ 63
        · have d4 : decide (y ≤ 63) = true := decide_eq_true h4
          rw [decide_eq_true (show 0 ≤ p ∧ p ≤ 255 ∧ -1 ≤ y ∧ y ≤ 63 from ⟨h1, h2, h3, h4⟩)]
          go_enter Try.func28, Try.ntmps28
          go_wp2
          go_ret
          exact ⟨rfl, (Kept.refl Non w).alloc _⟩
        · have d4 : decide (y ≤ 63) = false := decide_eq_false h4
          rw [decide_eq_false (show ¬ (0 ≤ p ∧ p ≤ 255 ∧ -1 ≤ y ∧ y ≤ 63) from fun h => h4 h.2.2.2)]
          go_enter Try.func28, Try.ntmps28
          go_wp2
          go_ret
          exact ⟨rfl, (Kept.refl Non w).alloc _⟩
      · have d3 : decide (-1 ≤ y) = false := decide_eq_false h3
        rw [decide_eq_false (show ¬ (0 ≤ p ∧ p ≤ 255 ∧ -1 ≤ y ∧ y ≤ 63) from fun h => h3 h.2.2.1)]
        go_enter Try.func28, Try.ntmps28
        go_wp2
        go_ret
        exact ⟨rfl, (Kept.refl Non w).alloc _⟩
    · have d2 : decide (p ≤ 255) = false := decide_eq_false h2
      rw [decide_eq_false (show ¬ (0 ≤ p ∧ p ≤ 255 ∧ -1 ≤ y ∧ y ≤ 63) from fun h => h2 h.2.1)]
      go_enter Try.func28, Try.ntmps28
      go_wp2
      go_ret
      exact ⟨rfl, (Kept.refl Non w).alloc _⟩
  · have d1 : decide (0 ≤ p) = false := decide_eq_false h1
    rw [decide_eq_false (show ¬ (0 ≤ p ∧ p ≤ 255 ∧ -1 ≤ y ∧ y ≤ 63) from fun h => h1 h.1)]
    go_enter Try.func28, Try.ntmps28
    go_wp2
    go_ret
    exact ⟨rfl, (Kept.refl Non w).alloc _⟩

theorem aright_any {G : Nat → Prop} (v : Value) (l : List Cap) (w : World) (hv : SeqAt capE 6 w v l G) (hn : l.length ≤ 1152921504606846976) :
    Calls Try.prog 38 #[v] w fun e w' => e = .returned (.bool (l.all okR && decide ((l.length : Int) ≤ 20))) ∧ Kept Non w w' := by
  obtain ⟨ao, cap, rfl, hcap, hq⟩ := hv
  have HQ := Lib.hid hq
  clear hq
  have hbad : ∀ k (h : k < l.length), okR l[k] = false → (l.all okR && decide ((l.length : Int) ≤ 20)) = false := fun k h hb => by
    have : l.all okR = false := List.all_eq_false.2 ⟨l[k], List.getElem_mem h, by simp [hb]⟩
    rw [this]; rfl
  have hgood : (∀ j (h : j < l.length), okR l[j] = true) → (l.all okR && decide ((l.length : Int) ≤ 20)) = decide ((l.length : Int) ≤ 20) := fun h => by
    have : l.all okR = true := List.all_eq_true.2 (fun x hx => by obtain ⟨i, hi, rfl⟩ := List.getElem_of_mem hx; exact h i hi)
    rw [this]; rfl
  generalize (l.all okR && decide ((l.length : Int) ≤ 20)) = R at hbad hgood ⊢
  have HBAD := Lib.hid hbad
  have HGOOD := Lib.hid hgood
  clear hbad hgood
  go_enter Try.func38, Try.ntmps38
  go_wp2
  go_loopw [3] (fun i wr => ∃ k : Nat, k ≤ l.length ∧ i = .int .i64 k ∧ (∀ j (h : j < l.length), j < k → okR l[j] = true) ∧ Kept Non w wr) (fun i _ => l.length - (intOf i).toNat)
  case atStart => exact ⟨0, Nat.zero_le _, rfl, fun j _ h => by omega, Kept.refl _ _⟩
  case round =>
    obtain ⟨k, hk, rfl, hT, hK⟩ := hrel
    have HT := Lib.hid hT
    have HK := Lib.hid hK
    clear hT hK
    by_cases hlt : k < l.length
    · obtain ⟨g, off, rfl, _, hc⟩ : ∃ g off, ao = some ⟨g, off, none⟩ ∧ True ∧ ∀ (i : Nat) (x : Cap), l[i]? = some x → ∀ (j : Nat) (u : Value), (capE x)[j]? = some u → w.cell? ⟨g, off + i * 6 + j, none⟩ = some u := by
        rcases HQ.out with h | ⟨g, off, h1, _, _, h4⟩
        · subst h; simp at hlt
        · exact ⟨g, off, h1, trivial, h4⟩
      have hcell : ∀ (j : Nat) (u : Value), (capE l[k])[j]? = some u → wr.cell? ⟨g, off + k * 6 + j, none⟩ = some u := fun j u hu => HK.out.cell (hc k l[k] (List.getElem?_eq_getElem hlt) j u hu) (fun h => h)
      have c0 : wr.cell? ⟨g, off + k * 6, none⟩ = some (.int .u64 l[k].base) := hcell 0 _ rfl
      have c1 : wr.cell? ⟨g, off + k * 6 + 1, none⟩ = some (.int .u64 l[k].top) := hcell 1 _ rfl
      have c2 : wr.cell? ⟨g, off + k * 6 + 2, none⟩ = some (.int .u64 l[k].at_) := hcell 2 _ rfl
      have c3 : wr.cell? ⟨g, off + k * 6 + 3, none⟩ = some (.int .i64 l[k].perms) := hcell 3 _ rfl
      have c4 : wr.cell? ⟨g, off + k * 6 + 4, none⟩ = some (.int .i64 l[k].typ) := hcell 4 _ rfl
      have c5 : wr.cell? ⟨g, off + k * 6 + 5, none⟩ = some (.bool l[k].tag) := hcell 5 _ rfl
      clear hcell hc
      have hcall := fun w' => right02_any l[k] w'
      simp only [capV] at hcall
      by_cases hp : okR l[k] = true
      · rw [hp] at hcall
        have HC := Lib.hid hcall
        have HP := Lib.hid hp
        clear hcall hp
        go_wp2_with (go_at_call 28; refine (HC.out _).mono ?_; rintro e w1 ⟨rfl, hk1⟩)
        go_roundw
        case rel => exact ⟨k + 1, by omega, by go_num, fun j h hj => by
          by_cases e : j = k
          · subst e; exact HP.out
          · exact HT.out j h (by omega), HK.out.trans hk1⟩
        case measure => simp [intOf]; omega
      · have hp : okR l[k] = false := by simpa using hp
        rw [hp] at hcall
        have HC := Lib.hid hcall
        have HE := Lib.hid (HBAD.out k hlt hp)
        clear hcall hp
        go_wp2_with (go_at_call 28; refine (HC.out _).mono ?_; rintro e w1 ⟨rfl, hk1⟩)
        go_ret
        exact ⟨ret_bool HE.out.symm, HK.out.trans hk1⟩
    · have HE := Lib.hid (HGOOD.out (fun j h => HT.out j h (by omega)))
      go_wp2
      go_ret
      exact ⟨ret_bool HE.out.symm, HK.out⟩

theorem start_any (s a x y : Cap) (w : World) : Calls Try.prog 39 #[startV s a x y] w fun e w' => ∃ g, e = .returned (.slice (some ⟨g, 0, none⟩) 4 4) ∧ w'.heap[g]? = some (.cells (startL s a x y).toArray 30 (0, 0)) ∧ Kept Non w w' := by
  have hS : startV s a x y = .agg #[.int .u64 s.base, .int .u64 s.top, .int .u64 s.at_, .int .i64 s.perms, .int .i64 s.typ, .bool s.tag, .int .u64 a.base, .int .u64 a.top, .int .u64 a.at_, .int .i64 a.perms, .int .i64 a.typ, .bool a.tag, .int .u64 x.base, .int .u64 x.top, .int .u64 x.at_, .int .i64 x.perms, .int .i64 x.typ, .bool x.tag, .int .u64 y.base, .int .u64 y.top, .int .u64 y.at_, .int .i64 y.perms, .int .i64 y.typ, .bool y.tag] := rfl
  rw [hS]
  clear hS
  go_enter Try.func39, Try.ntmps39
  go_wp2
  go_ret
  exact ⟨_, rfl, blk_new2 w _ _, ((Kept.refl Non w).alloc _).alloc _⟩

end Go.Proofs.Ytkmbmbpjppjdjaa
