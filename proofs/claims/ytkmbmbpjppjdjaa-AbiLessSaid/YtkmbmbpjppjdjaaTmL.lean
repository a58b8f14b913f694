/- Plain laws of a memory with tags: what is done to it leaves it well formed. -/
import Derived.Test.YtkmbmbpjppjdjaaTmP
namespace Go.Proofs.Ytkmbmbpjppjdjaa.TmP
set_option linter.unusedSimpArgs false
set_option linter.unusedVariables false

theorem mem_insK {k x : Int} : ∀ {l : List Int}, x ∈ insK k l ↔ x = k ∨ x ∈ l
  | [] => by simp [insK]
  | y :: r => by
    unfold insK
    split
    · simp
    · simp [mem_insK (l := r)]
      constructor
      · rintro (h | h | h) <;> simp [h]
      · rintro (h | h | h) <;> simp [h]

theorem insK_sorted {k : Int} : ∀ {l : List Int}, l.Pairwise (· < ·) → k ∉ l → (insK k l).Pairwise (· < ·)
  | [], _, _ => by simp [insK]
  | y :: r, h, hk => by
    obtain ⟨h1, h2⟩ := List.pairwise_cons.1 h
    unfold insK
    split
    · rename_i hlt
      refine List.pairwise_cons.2 ⟨fun z hz => ?_, h⟩
      rcases List.mem_cons.1 hz with rfl | hz
      · exact hlt
      · have := h1 z hz; omega
    · rename_i hlt
      have hne : k ≠ y := fun e => hk (by simp [e])
      refine List.pairwise_cons.2 ⟨fun z hz => ?_, insK_sorted h2 (fun hz => hk (by simp [hz]))⟩
      rcases mem_insK.1 hz with rfl | hz
      · omega
      · exact h1 z hz

theorem length_insK {k : Int} : ∀ {l : List Int}, (insK k l).length = l.length + 1
  | [] => rfl
  | y :: r => by
    unfold insK
    split
    · rfl
    · simp [length_insK (l := r)]

theorem mem_insAll {f x : Int} {l : List Int} : ∀ {n : Nat}, x ∈ insAll f n l ↔ (f ≤ x ∧ x < f + n) ∨ x ∈ l
  | 0 => by
    simp [insAll]
    omega
  | n + 1 => by
    unfold insAll
    rw [mem_insK, mem_insAll (n := n)]
    constructor
    · rintro (h | h | h)
      · left; omega
      · left; omega
      · right; exact h
    · rintro (h | h)
      · by_cases e : x = f + n
        · exact .inl e
        · right; left; omega
      · exact .inr (.inr h)

theorem length_insAll {f : Int} {l : List Int} : ∀ {n : Nat}, (insAll f n l).length = l.length + n
  | 0 => rfl
  | n + 1 => by
    unfold insAll
    rw [length_insK, length_insAll (n := n)]
    omega

theorem insAll_sorted {f : Int} {l : List Int} (h : l.Pairwise (· < ·)) : ∀ {n : Nat}, (∀ i : Nat, i < n → f + (i : Int) ∉ l) → (insAll f n l).Pairwise (· < ·)
  | 0, _ => h
  | n + 1, hn => by
    unfold insAll
    refine insK_sorted (insAll_sorted h (fun i hi => hn i (by omega))) (fun hm => ?_)
    rcases mem_insAll.1 hm with hm | hm
    · omega
    · exact hn n (by omega) hm

theorem allB_iff {keys : List Int} {f : Int} {n : Nat} {b : Bool} : allB keys f n b = true ↔ ∀ j : Nat, j < n → decide (f + (j : Int) ∈ keys) = b := by
  simp only [allB, List.all_eq_true, List.mem_range, beq_iff_eq]

/-- With so many pages from f on. -/
def PM.grow (M : PM) (f : Int) (n : Nat) : PM := { M with keys := insAll f n M.keys }

theorem PM.WF.grow {M : PM} (h : M.WF) {f : Int} {n : Nat} (h0 : 0 ≤ f) (h1 : f + n ≤ 65536) (hn : ∀ i : Nat, i < n → f + (i : Int) ∉ M.keys) (hb : (M.keys.length : Int) + n ≤ M.budget) : (M.grow f n).WF where
  sorted := insAll_sorted h.sorted hn
  range := fun k hk => by
    rcases mem_insAll.1 hk with hk | hk
    · omega
    · exact h.range k hk
  lo := h.lo
  hi := h.hi
  bz := fun a ha => h.bz a (fun hm => ha (mem_insAll.2 (.inr hm)))
  tz := fun g hg => h.tz g (fun hm => hg (mem_insAll.2 (.inr hm)))
  few := by simp only [PM.grow, length_insAll]; omega
  most := h.most

theorem grow_succ (M : PM) (f : Int) (n : Nat) : M.grow f (n + 1) = { M with keys := insK (f + n) (M.grow f n).keys } := rfl
theorem grow_zero (M : PM) (f : Int) : M.grow f 0 = M := rfl

theorem mem_drop {M : PM} {f k : Int} {n : Nat} : k ∈ (M.drop f n).keys ↔ k ∈ M.keys ∧ ¬ (f ≤ k ∧ k < f + n) := by
  simp [PM.drop]
  intro _
  omega

theorem PM.WF.drop {M : PM} (h : M.WF) (f : Int) (n : Nat) : (M.drop f n).WF where
  sorted := h.sorted.filter _
  range := fun k hk => h.range k (mem_drop.1 hk).1
  lo := fun a => by
    simp only [PM.drop]
    split
    · omega
    · exact h.lo a
  hi := fun a => by
    simp only [PM.drop]
    split
    · omega
    · exact h.hi a
  bz := fun a ha => by
    simp only [PM.drop]
    split
    · rfl
    · rename_i hf
      exact h.bz a (fun hm => ha (mem_drop.2 ⟨hm, hf⟩))
  tz := fun g hg => by
    simp only [PM.drop]
    split
    · rfl
    · rename_i hf
      exact h.tz g (fun hm => hg (mem_drop.2 ⟨hm, hf⟩))
  few := by
    have := List.length_filter_le (fun k => !(decide (f ≤ k) && decide (k < f + n))) M.keys
    have h2 := h.few
    simp only [PM.drop]
    omega
  most := h.most

theorem drop_zero (M : PM) (f : Int) : M.drop f 0 = M := by
  have e1 : M.keys.filter (fun k => !(decide (f ≤ k) && decide (k < f + ((0 : Nat) : Int)))) = M.keys := by
    rw [List.filter_eq_self]
    intro k _
    simp
    omega
  have e2 : (fun a => if f ≤ a / 256 ∧ a / 256 < f + ((0 : Nat) : Int) then 0 else M.byte a) = M.byte := by
    funext a
    rw [if_neg (by omega)]
  have e3 : (fun g => if f ≤ g / 8 ∧ g / 8 < f + ((0 : Nat) : Int) then false else M.tag g) = M.tag := by
    funext g
    rw [if_neg (by omega)]
  unfold PM.drop
  rw [e1, e2, e3]

theorem drop_keys_succ (M : PM) (f : Int) (n : Nat) : (M.drop f (n + 1)).keys = (M.drop f n).keys.filter fun x => !decide (x = f + n) := by
  simp only [PM.drop, List.filter_filter]
  refine List.filter_congr (fun x _ => ?_)
  rw [Bool.eq_iff_iff]
  simp
  omega

theorem PM.WF.put1 {M : PM} (h : M.WF) {a b : Int} (hb : 0 ≤ b) (hb' : b ≤ 255) (ha : a / 256 ∈ M.keys) : (M.put1 a b).WF where
  sorted := h.sorted
  range := h.range
  lo := fun x => by
    simp only [PM.put1]
    split
    · exact hb
    · exact h.lo x
  hi := fun x => by
    simp only [PM.put1]
    split
    · exact hb'
    · exact h.hi x
  bz := fun x hx => by
    simp only [PM.put1]
    split
    · rename_i e
      subst e
      exact absurd ha hx
    · exact h.bz x hx
  tz := fun g hg => by
    simp only [PM.put1]
    split
    · rfl
    · exact h.tz g hg
  few := h.few
  most := h.most

theorem putL_keys : ∀ (l : List Int) (M : PM) (a : Int), (M.putL a l).keys = M.keys
  | [], _, _ => rfl
  | b :: r, M, a => (putL_keys r (M.put1 a b) (a + 1)).trans rfl
theorem putL_budget : ∀ (l : List Int) (M : PM) (a : Int), (M.putL a l).budget = M.budget
  | [], _, _ => rfl
  | b :: r, M, a => (putL_budget r (M.put1 a b) (a + 1)).trans rfl

theorem PM.WF.putL : ∀ (l : List Int) {M : PM} (h : M.WF) {a : Int} (hl : ∀ b ∈ l, 0 ≤ b ∧ b ≤ 255) (ha : ∀ i : Nat, i < l.length → (a + (i : Int)) / 256 ∈ M.keys), (M.putL a l).WF
  | [], _, h, _, _, _ => h
  | b :: r, M, h, a, hl, ha => by
    have h1 := h.put1 (a := a) (hl b (by simp)).1 (hl b (by simp)).2 (by simpa using ha 0 (by simp))
    refine PM.WF.putL r h1 (fun x hx => hl x (by simp [hx])) (fun i hi => ?_)
    have := ha (i + 1) (by simp; omega)
    rw [show a + 1 + (i : Int) = a + ((i + 1 : Nat) : Int) by omega]
    exact this

theorem PM.WF.setTag {M : PM} (h : M.WF) {g : Int} {t : Bool} (hg : g / 8 ∈ M.keys) : (M.setTag g t).WF where
  sorted := h.sorted
  range := h.range
  lo := h.lo
  hi := h.hi
  bz := h.bz
  tz := fun x hx => by
    simp only [PM.setTag]
    split
    · rename_i e
      subst e
      exact absurd hg hx
    · exact h.tz x hx
  few := h.few
  most := h.most

/-- Behind 'putL': a byte. -/
theorem putL_byte : ∀ (l : List Int) (M : PM) (a x : Int), (M.putL a l).byte x = if a ≤ x ∧ x < a + l.length then l.getD (x - a).toNat 0 else M.byte x
  | [], M, a, x => by
    rw [if_neg (by first | (simp; done) | (simp; omega))]
    rfl
  | b :: r, M, a, x => by
    show ((M.put1 a b).putL (a + 1) r).byte x = _
    rw [putL_byte r (M.put1 a b) (a + 1) x]
    by_cases e : x = a
    · subst e
      rw [if_neg (by omega), if_pos (by simp only [List.length_cons]; omega)]
      simp [PM.put1]
    · by_cases h : a + 1 ≤ x ∧ x < a + 1 + r.length
      · rw [if_pos h, if_pos (by simp; omega)]
        obtain ⟨k, hk⟩ : ∃ k : Nat, x = a + 1 + k := ⟨(x - a - 1).toNat, by omega⟩
        subst hk
        rw [show (a + 1 + (k : Int) - (a + 1)).toNat = k by omega, show (a + 1 + (k : Int) - a).toNat = k + 1 by omega]
        simp
      · rw [if_neg h, if_neg (by simp; omega)]
        simp [PM.put1, e]

/-- .. and a tag. -/
theorem putL_tag : ∀ (l : List Int) (M : PM) (a g : Int), (M.putL a l).tag g = if l ≠ [] ∧ a / 32 ≤ g ∧ g ≤ (a + l.length - 1) / 32 then false else M.tag g
  | [], M, a, g => by simp [PM.putL]
  | [b], M, a, g => by
    simp only [PM.putL, PM.put1, List.length_singleton]
    by_cases e : g = a / 32
    · rw [if_pos e, if_pos (by simp; omega)]
    · rw [if_neg e, if_neg (by simp; omega)]
  | b :: c :: r, M, a, g => by
    show ((M.put1 a b).putL (a + 1) (c :: r)).tag g = _
    rw [putL_tag (c :: r) (M.put1 a b) (a + 1) g]
    simp only [PM.put1, List.length_cons]
    by_cases e : g = a / 32
    · rw [if_pos (show _ ∧ a / 32 ≤ g ∧ g ≤ _ from ⟨by simp, by omega, by omega⟩)]
      split
      · rfl
      · first | rfl | rw [if_pos e]
    · by_cases h : a / 32 ≤ g ∧ g ≤ (a + ((r.length + 1 + 1 : Nat) : Int) - 1) / 32
      · rw [if_pos (show _ ∧ (a + 1) / 32 ≤ g ∧ g ≤ _ from ⟨by simp, by omega, by omega⟩), if_pos ⟨by simp, h⟩]
      · rw [if_neg (by intro hh; exact h ⟨by omega, by omega⟩), if_neg e, if_neg (by intro hh; exact h hh.2)]

theorem length_leB (w : Int) (n : Nat) : (leB w n).length = n := by
  induction n generalizing w with
  | zero => rfl
  | succ n ih => simp [leB, ih]

theorem leB_range (w : Int) (n : Nat) : ∀ b ∈ leB w n, 0 ≤ b ∧ b ≤ 255 := by
  induction n generalizing w with
  | zero => simp [leB]
  | succ n ih =>
    intro b hb
    simp only [leB, List.mem_cons] at hb
    rcases hb with rfl | hb
    · omega
    · exact ih _ b hb

theorem length_get (M : PM) (a : Int) (n : Nat) : (M.get a n).length = n := by
  induction n generalizing a with
  | zero => rfl
  | succ n ih => simp [PM.get, ih]

theorem get_getD (M : PM) (a : Int) (n i : Nat) (hi : i < n) : (M.get a n).getD i 0 = M.byte (a + i) := by
  induction n generalizing a i with
  | zero => omega
  | succ n ih =>
    cases i with
    | zero => simp [PM.get]
    | succ i =>
      simp only [PM.get, List.getD_cons_succ]
      rw [ih (a + 1) i (by omega)]
      congr 1
      omega

theorem get_getElem? (M : PM) (a : Int) (n i : Nat) (hi : i < n) : (M.get a n)[i]? = some (M.byte (a + i)) := by
  have h1 : i < (M.get a n).length := by rw [length_get]; exact hi
  have h2 := get_getD M a n i hi
  rw [List.getD_eq_getElem?_getD, List.getElem?_eq_getElem h1] at h2
  rw [List.getElem?_eq_getElem h1]
  simpa using h2

theorem get_snoc (M : PM) (a : Int) (n : Nat) : M.get a (n + 1) = M.get a n ++ [M.byte (a + n)] := by
  induction n generalizing a with
  | zero => simp [PM.get]
  | succ n ih =>
    rw [PM.get, ih (a + 1), PM.get]
    simp only [List.cons_append, List.cons.injEq, true_and]
    rw [show a + 1 + (n : Int) = a + ((n + 1 : Nat) : Int) by omega]

theorem get_range {M : PM} (h : M.WF) (a : Int) (n : Nat) : ∀ b ∈ M.get a n, 0 ≤ b ∧ b ≤ 255 := by
  induction n generalizing a with
  | zero => simp [PM.get]
  | succ n ih =>
    intro b hb
    simp only [PM.get, List.mem_cons] at hb
    rcases hb with rfl | hb
    · exact ⟨h.lo a, h.hi a⟩
    · exact ih _ b hb

end Go.Proofs.Ytkmbmbpjppjdjaa.TmP
