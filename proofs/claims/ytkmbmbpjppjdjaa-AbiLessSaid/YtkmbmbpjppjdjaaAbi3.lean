/- Walks: which texts and capabilities may be handed over, all of them. -/
import Derived.Test.YtkmbmbpjppjdjaaAbi2
namespace Go.Proofs.Ytkmbmbpjppjdjaa
open Go.RowKit Go.Maps TmP
set_option linter.unusedSimpArgs false
set_option linter.unusedVariables false
set_option maxRecDepth 100000

/-- A capability's cells, as a list. -/
def capE (c : Cap) : List Value := [.int .u64 c.base, .int .u64 c.top, .int .u64 c.at_, .int .i64 c.perms, .int .i64 c.typ, .bool c.tag]

theorem safe_any (c : Cap) (w : World) : Calls Try.prog 75 #[capV c] w fun e w' => e = .returned (.bool (safeB c)) ∧ Kept Non w w' := by
  obtain ⟨b, t, a, p, y, g⟩ := c
  simp only [capV, safeB]
  generalize hx : bits .and .i64 p 96 = x
  generalize hy : bits .and .i64 p 2 = y2
  generalize hz : bits .and .i64 p 4 = y4
  cases g
  · by_cases h2 : y2 = 0
    · have hd2 : (y2 != 0) = false := by simpa using h2
      go_enter Try.func75, Try.ntmps75
      go_wp2
      go_ret
      exact ⟨rfl, (Kept.refl Non w).alloc _⟩
    · have hd2 : (y2 != 0) = true := by simpa using h2
      go_enter Try.func75, Try.ntmps75
      go_wp2
      go_ret
      exact ⟨rfl, (Kept.refl Non w).alloc _⟩
  · by_cases h1 : x = 0
    · subst h1
      by_cases h2 : y2 = 0
      · subst h2
        go_enter Try.func75, Try.ntmps75
        go_wp2
        go_ret
        exact ⟨rfl, (Kept.refl Non w).alloc _⟩
      · have hd2 : (y2 != 0) = true := by simpa using h2
        by_cases h4 : y4 = 0
        · subst h4
          go_enter Try.func75, Try.ntmps75
          go_wp2
          go_ret
          exact ⟨by simp, (Kept.refl Non w).alloc _⟩
        · have hd4 : (y4 != 0) = true := by simpa using h4
          go_enter Try.func75, Try.ntmps75
          go_wp2
          go_ret
          exact ⟨by simp [h2, h4], (Kept.refl Non w).alloc _⟩
    · have hd1 : (x != 0) = true := by simpa using h1
      have hr : (!true || decide (x = 0) && !(decide (y2 ≠ 0) && decide (y4 ≠ 0))) = false := by simp [h1]
      rw [hr]
      by_cases h2 : y2 = 0
      · subst h2
        go_enter Try.func75, Try.ntmps75
        go_wp2
        go_ret
        exact ⟨rfl, (Kept.refl Non w).alloc _⟩
      · have hd2 : (y2 != 0) = true := by simpa using h2
        go_enter Try.func75, Try.ntmps75
        go_wp2
        go_ret
        exact ⟨rfl, (Kept.refl Non w).alloc _⟩

theorem right1_any (s : ByteArray) (w : World) (hs : s.size ≤ 140737488355328) : Calls Try.prog 72 #[.string s] w fun e w' => e = .returned (.bool (!textB s)) ∧ Kept Non w w' := by
  have h := fun w => text_any s w hs
  go_enter Try.func72, Try.ntmps72
  go_wp2_with (go_at_call 73; refine (h _).mono ?_; rintro e w1 ⟨rfl, hk⟩)
  go_ret
  exact ⟨rfl, hk⟩

theorem right2_any (c : Cap) (w : World) : Calls Try.prog 74 #[capV c] w fun e w' => e = .returned (.bool (!safeB c)) ∧ Kept Non w w' := by
  have h := fun w => safe_any c w
  obtain ⟨b, t, a, p, y, g⟩ := c
  simp only [capV] at h ⊢
  go_enter Try.func74, Try.ntmps74
  go_wp2_with (go_at_call 75; refine (h _).mono ?_; rintro e w1 ⟨rfl, hk⟩)
  go_ret
  exact ⟨rfl, ((Kept.refl Non w).alloc _).trans hk⟩

theorem indexstr_any {G : Nat → Prop} (v : Value) (l : List ByteArray) (w : World) (hv : SeqAt strE 1 w v l G) (hlen : l.length ≤ 1152921504606846976) (hp : ∀ x ∈ l, x.size ≤ 140737488355328) :
    Calls Try.prog 94 #[v, .func (.func 72) #[] #[]] w fun e w' => ∃ i : Int, e = .returned (.int .i64 i) ∧ (decide (0 ≤ i) = l.any (fun x => !textB x)) ∧ Kept Non w w' := by
  obtain ⟨ao, cap, rfl, hcap, hq⟩ := hv
  go_enter Try.func94, Try.ntmps94
  go_wp2
  go_loopw [5, 8] (fun _ i wr => ∃ k : Nat, k ≤ l.length ∧ i = .int .i64 k ∧ (∀ j, (h : j < l.length) → j < k → (fun x => !textB x) (l[j]'h) = false) ∧ Kept Non w wr) (fun _ i _ => l.length - (intOf i).toNat)
  case atStart => exact ⟨0, Nat.zero_le _, rfl, fun j _ h => by omega, Kept.refl _ _⟩
  case round =>
    obtain ⟨k, hk, rfl, hb, hK⟩ := hrel
    have HB := Lib.hid hb
    have HK := Lib.hid hK
    clear hb hK
    by_cases hlt : k < l.length
    · obtain ⟨g, off, rfl, _, hc⟩ : ∃ g off, ao = some ⟨g, off, none⟩ ∧ True ∧ ∀ (i : Nat) (x : ByteArray), l[i]? = some x → ∀ (j : Nat) (u : Value), (strE x)[j]? = some u → w.cell? ⟨g, off + i * 1 + j, none⟩ = some u := by
        rcases hq with h | ⟨g, off, h1, _, _, h4⟩
        · subst h; simp at hlt
        · exact ⟨g, off, h1, trivial, h4⟩
      have hcell : w.cell? ⟨g, off + k, none⟩ = some (.string l[k]) := by simpa using hc k l[k] (List.getElem?_eq_getElem hlt) 0 _ rfl
      have hcw := (HK.out).cell hcell (fun h => h)
      have hcall := fun w' => right1_any l[k] w' (hp _ (List.getElem_mem hlt))
      by_cases hp1 : (!textB l[k]) = true
      · simp only [hp1] at hcall
        have HE := Lib.hid (List.any_eq_true.2 ⟨l[k], List.getElem_mem hlt, hp1⟩ : l.any (fun x => !textB x) = true)
        have HC := Lib.hid hcall
        clear hcall hc hp1
        go_wp2_with (go_at_call 72; refine (HC.out _).mono ?_; rintro e w1 ⟨rfl, hk1⟩)
        go_ret
        exact ⟨_, rfl, by rw [HE.out]; simp, HK.out.trans hk1⟩
      · have hp2 : (!textB l[k]) = false := by simpa using hp1
        simp only [hp2] at hcall
        have HC := Lib.hid hcall
        have HP := Lib.hid hp2
        clear hcall hc hp1 hp2
        go_wp2_with (go_at_call 72; refine (HC.out _).mono ?_; rintro e w1 ⟨rfl, hk1⟩)
        go_roundw
        case rel => exact ⟨k + 1, by omega, by go_num, fun j h hj => by
          by_cases e : j = k
          · subst e; exact HP.out
          · exact HB.out j h (by omega), HK.out.trans hk1⟩
        case measure => simp [intOf]; omega
    · obtain rfl : k = l.length := by omega
      have HE := Lib.hid (show l.any (fun x => !textB x) = false by
        rw [List.any_eq_false]
        intro x hx
        obtain ⟨i, hi, rfl⟩ := List.getElem_of_mem hx
        simp only [HB.out i hi hi]
        exact Bool.false_ne_true)
      go_wp2
      go_ret
      exact ⟨-1, rfl, by rw [HE.out]; rfl, HK.out⟩

theorem containsstr_any {G : Nat → Prop} (v : Value) (l : List ByteArray) (w : World) (hv : SeqAt strE 1 w v l G) (hlen : l.length ≤ 1152921504606846976) (hp : ∀ x ∈ l, x.size ≤ 140737488355328) :
    Calls Try.prog 76 #[v, .func (.func 72) #[] #[]] w fun e w' => e = .returned (.bool (l.any (fun x => !textB x))) ∧ Kept Non w w' := by
  have h := indexstr_any v l w hv hlen hp
  go_enter Try.func76, Try.ntmps76
  go_wp2_with (go_at_call 94; refine h.mono ?_; rintro e w1 ⟨i, rfl, hi, hk⟩)
  go_ret
  exact ⟨rfl, hk⟩

theorem indexcap_any {G : Nat → Prop} (v : Value) (l : List Cap) (w : World) (hv : SeqAt capE 6 w v l G) (hlen : l.length ≤ 1152921504606846976)  :
    Calls Try.prog 95 #[v, .func (.func 74) #[] #[]] w fun e w' => ∃ i : Int, e = .returned (.int .i64 i) ∧ (decide (0 ≤ i) = l.any (fun x => !safeB x)) ∧ Kept Non w w' := by
  obtain ⟨ao, cap, rfl, hcap, hq⟩ := hv
  go_enter Try.func95, Try.ntmps95
  go_wp2
  go_loopw [5, 8] (fun _ i wr => ∃ k : Nat, k ≤ l.length ∧ i = .int .i64 k ∧ (∀ j, (h : j < l.length) → j < k → (fun x => !safeB x) (l[j]'h) = false) ∧ Kept Non w wr) (fun _ i _ => l.length - (intOf i).toNat)
  case atStart => exact ⟨0, Nat.zero_le _, rfl, fun j _ h => by omega, Kept.refl _ _⟩
  case round =>
    obtain ⟨k, hk, rfl, hb, hK⟩ := hrel
    have HB := Lib.hid hb
    have HK := Lib.hid hK
    clear hb hK
    by_cases hlt : k < l.length
    · obtain ⟨g, off, rfl, _, hc⟩ : ∃ g off, ao = some ⟨g, off, none⟩ ∧ True ∧ ∀ (i : Nat) (x : Cap), l[i]? = some x → ∀ (j : Nat) (u : Value), (capE x)[j]? = some u → w.cell? ⟨g, off + i * 6 + j, none⟩ = some u := by
        rcases hq with h | ⟨g, off, h1, _, _, h4⟩
        · subst h; simp at hlt
        · exact ⟨g, off, h1, trivial, h4⟩
      have hcell : ∀ (j : Nat) (u : Value), (capE l[k])[j]? = some u → wr.cell? ⟨g, off + k * 6 + j, none⟩ = some u := fun j u hu => HK.out.cell (hc k l[k] (List.getElem?_eq_getElem hlt) j u hu) (fun h => h)
      have c0 : wr.cell? ⟨g, off + k * 6, none⟩ = some (.int .u64 l[k].base) := hcell 0 _ rfl
      have c1 : wr.cell? ⟨g, off + k * 6 + 1, none⟩ = some (.int .u64 l[k].top) := hcell 1 _ rfl
      have c2 : wr.cell? ⟨g, off + k * 6 + 2, none⟩ = some (.int .u64 l[k].at_) := hcell 2 _ rfl
      have c3 : wr.cell? ⟨g, off + k * 6 + 3, none⟩ = some (.int .i64 l[k].perms) := hcell 3 _ rfl
      have c4 : wr.cell? ⟨g, off + k * 6 + 4, none⟩ = some (.int .i64 l[k].typ) := hcell 4 _ rfl
      have c5 : wr.cell? ⟨g, off + k * 6 + 5, none⟩ = some (.bool l[k].tag) := hcell 5 _ rfl
      clear hcell
      have hcall := fun w' => right2_any l[k] w'
      simp only [capV] at hcall
      by_cases hp1 : (!safeB l[k]) = true
      · simp only [hp1] at hcall
        have HE := Lib.hid (List.any_eq_true.2 ⟨l[k], List.getElem_mem hlt, hp1⟩ : l.any (fun x => !safeB x) = true)
        have HC := Lib.hid hcall
        clear hcall hc hp1
        go_wp2_with (go_at_call 74; refine (HC.out _).mono ?_; rintro e w1 ⟨rfl, hk1⟩)
        go_ret
        exact ⟨_, rfl, by rw [HE.out]; simp, HK.out.trans hk1⟩
      · have hp2 : (!safeB l[k]) = false := by simpa using hp1
        simp only [hp2] at hcall
        have HC := Lib.hid hcall
        have HP := Lib.hid hp2
        clear hcall hc hp1 hp2
        go_wp2_with (go_at_call 74; refine (HC.out _).mono ?_; rintro e w1 ⟨rfl, hk1⟩)
        go_roundw
        case rel => exact ⟨k + 1, by omega, by go_num, fun j h hj => by
          by_cases e : j = k
          · subst e; exact HP.out
          · exact HB.out j h (by omega), HK.out.trans hk1⟩
        case measure => simp [intOf]; omega
    · obtain rfl : k = l.length := by omega
      have HE := Lib.hid (show l.any (fun x => !safeB x) = false by
        rw [List.any_eq_false]
        intro x hx
        obtain ⟨i, hi, rfl⟩ := List.getElem_of_mem hx
        simp only [HB.out i hi hi]
        exact Bool.false_ne_true)
      go_wp2
      go_ret
      exact ⟨-1, rfl, by rw [HE.out]; rfl, HK.out⟩

theorem containscap_any {G : Nat → Prop} (v : Value) (l : List Cap) (w : World) (hv : SeqAt capE 6 w v l G) (hlen : l.length ≤ 1152921504606846976)  :
    Calls Try.prog 77 #[v, .func (.func 74) #[] #[]] w fun e w' => e = .returned (.bool (l.any (fun x => !safeB x))) ∧ Kept Non w w' := by
  have h := indexcap_any v l w hv hlen 
  go_enter Try.func77, Try.ntmps77
  go_wp2_with (go_at_call 95; refine h.mono ?_; rintro e w1 ⟨i, rfl, hi, hk⟩)
  go_ret
  exact ⟨rfl, hk⟩

end Go.Proofs.Ytkmbmbpjppjdjaa
