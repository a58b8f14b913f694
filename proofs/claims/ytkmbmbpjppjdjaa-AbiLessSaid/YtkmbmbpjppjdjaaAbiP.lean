/- Plain: what lies in a memory when texts and lists have been laid into it. No program is walked here. -/
import Derived.Test.YtkmbmbpjppjdjaaAbi5
namespace Go.Proofs.Ytkmbmbpjppjdjaa
open Go.RowKit Go.Maps TmP
set_option linter.unusedSimpArgs false
set_option linter.unusedVariables false

namespace TmP
/-- A list of capabilities is laid. -/
def PM.lst : PM → Int → List Cap → PM
  | M, _, [] => M
  | M, a, c :: r => (M.storeCap a c).lst (a + 32) r
theorem PM.lst_append : ∀ (l k : List Cap) (M : PM) (a : Int), M.lst a (l ++ k) = (M.lst a l).lst (a + 32 * l.length) k
  | [], k, M, a => by simp [PM.lst]
  | c :: r, k, M, a => by
    show (M.storeCap a c).lst (a + 32) (r ++ k) = _
    rw [lst_append r]
    simp only [PM.lst, List.length_cons]
    congr 1
    omega
theorem PM.lst_snoc (l : List Cap) (M : PM) (a : Int) (c : Cap) : M.lst a (l ++ [c]) = (M.lst a l).storeCap (a + 32 * l.length) c := by
  rw [PM.lst_append]; rfl
theorem PM.lay_append : ∀ (l k : List ByteArray) (M : PM) (a : Int), M.lay a (l ++ k) = (M.lay a l).lay (a + sizeL l) k
  | [], k, M, a => by simp [PM.lay, sizeL_nil]
  | s :: r, k, M, a => by
    show (M.put a (bsI s ++ [0])).lay (a + (s.size + 1)) (r ++ k) = _
    rw [lay_append r, sizeL_cons]
    simp only [PM.lay]
    congr 1
    omega

theorem put_keys (M : PM) (a : Int) (b : List Int) : (M.put a b).keys = M.keys := by
  unfold PM.put; split
  · exact putL_keys _ _ _
  · rfl
theorem lay_keys : ∀ (l : List ByteArray) (M : PM) (a : Int), (M.lay a l).keys = M.keys
  | [], _, _ => rfl
  | s :: r, M, a => (lay_keys r _ _).trans (put_keys _ _ _)
theorem storeCap_keys (M : PM) (a : Int) (c : Cap) : (M.storeCap a c).keys = M.keys := by
  unfold PM.storeCap; split
  · simp only [PM.setTag, putL_keys]
  · rfl
theorem lst_keys : ∀ (l : List Cap) (M : PM) (a : Int), (M.lst a l).keys = M.keys
  | [], _, _ => rfl
  | c :: r, M, a => (lst_keys r _ _).trans (storeCap_keys _ _ _)

theorem put_out (M : PM) (a x : Int) (b : List Int) (h : x < a ∨ a + b.length ≤ x) : (M.put a b).byte x = M.byte x := by
  unfold PM.put; split
  · rw [putL_byte, if_neg (by omega)]
  · rfl
theorem bz_len (s : ByteArray) : (bsI s ++ [0]).length = s.size + 1 := by simp [bsI_length]
theorem lay_out : ∀ (l : List ByteArray) (M : PM) (a x : Int), (x < a ∨ a + sizeL l ≤ x) → (M.lay a l).byte x = M.byte x
  | [], _, _, _, _ => rfl
  | s :: r, M, a, x, h => by
    rw [sizeL_cons] at h
    have := sizeL_nonneg r
    refine (lay_out r _ _ x (by omega)).trans (put_out _ _ _ _ ?_)
    rw [bz_len]; omega
theorem storeCap_out (M : PM) (a x : Int) (c : Cap) (h : x < a ∨ a + 32 ≤ x) : (M.storeCap a c).byte x = M.byte x := by
  unfold PM.storeCap; split
  · simp only [PM.setTag]
    rw [putL_byte, if_neg (by rw [capB_length]; omega)]
  · rfl
theorem lst_out : ∀ (l : List Cap) (M : PM) (a x : Int), (x < a ∨ a + 32 * l.length ≤ x) → (M.lst a l).byte x = M.byte x
  | [], _, _, _, _ => rfl
  | c :: r, M, a, x, h => by
    rw [List.length_cons] at h
    exact (lst_out r _ _ x (by omega)).trans (storeCap_out _ _ _ _ (by omega))
theorem storeCap_tout (M : PM) (a g : Int) (c : Cap) (h : g ≠ a / 32) : (M.storeCap a c).tag g = M.tag g := by
  unfold PM.storeCap; split
  · rename_i hg
    have := (granE_ok hg).1
    simp only [PM.setTag]
    rw [if_neg h, putL_tag, if_neg (by rw [capB_length]; omega)]
  · rfl
theorem lst_tout : ∀ (l : List Cap) (M : PM) (a g : Int), (g < a / 32 ∨ a / 32 + l.length ≤ g) → (M.lst a l).tag g = M.tag g
  | [], _, _, _, _ => rfl
  | c :: r, M, a, g, h => by
    rw [List.length_cons] at h
    exact (lst_tout r _ _ g (by omega)).trans (storeCap_tout _ _ _ _ (by omega))

theorem get_congr {M N : PM} : ∀ (n : Nat) (a : Int), (∀ x, a ≤ x → x < a + n → M.byte x = N.byte x) → M.get a n = N.get a n
  | 0, _, _ => rfl
  | n + 1, a, h => by
    show M.byte a :: _ = N.byte a :: _
    rw [h a (by omega) (by omega), get_congr n (a + 1) (fun x h1 h2 => h x (by omega) (by omega))]
theorem putL_get : ∀ (l : List Int) (M : PM) (a : Int), (M.putL a l).get a l.length = l := by
  intro l M a
  refine List.ext_getElem? (fun i => ?_)
  by_cases hi : i < l.length
  · rw [get_getElem? _ _ _ _ hi, putL_byte, if_pos (by omega), show (a + (i : Int) - a).toNat = i by omega, List.getElem?_eq_getElem hi]
    simp [List.getD, hi]
  · rw [List.getElem?_eq_none (by rw [length_get]; omega), List.getElem?_eq_none (by omega)]

/-- The bytes from lo on, ahead of hi, are mapped. -/
def Inn (keys : List Int) (lo hi : Int) : Prop := hi ≤ 16777216 ∧ ∀ x, lo ≤ x → x < hi → x / 256 ∈ keys
theorem Inn.mapped {keys : List Int} {lo hi a : Int} {n : Nat} (h : Inn keys lo hi) (h1 : lo ≤ a) (h2 : a + n ≤ hi) : mappedB keys a n = true :=
  mappedB_iff.2 ⟨by have := h.1; omega, fun j hj => h.2 _ (by omega) (by omega)⟩
theorem Inn.gran {keys : List Int} {lo hi a : Int} (h : Inn keys lo hi) (h1 : lo ≤ a) (h2 : a < hi) (h3 : a % 32 = 0) : granE keys a = 0 := by
  unfold granE
  rw [if_neg (by omega), if_neg (by simpa using h.2 a h1 h2)]

/-- A text that has been laid. -/
theorem lay_get {M : PM} {lo hi a : Int} (pre : List ByteArray) (s : ByteArray) (post : List ByteArray) (h : Inn M.keys lo hi) (h1 : lo ≤ a) (h2 : a + sizeL (pre ++ s :: post) ≤ hi) :
    (M.lay a (pre ++ s :: post)).get (a + sizeL pre) (s.size + 1) = bsI s ++ [0] := by
  have hp := sizeL_nonneg pre
  have hq := sizeL_nonneg post
  rw [sizeL_append, sizeL_cons] at h2
  rw [PM.lay_append]
  show (((M.lay a pre).put (a + sizeL pre) (bsI s ++ [0])).lay (a + sizeL pre + (s.size + 1)) post).get _ _ = _
  rw [get_congr (N := (M.lay a pre).put (a + sizeL pre) (bsI s ++ [0])) _ _ (fun x h3 h4 => lay_out _ _ _ _ (by omega))]
  have hm : mappedB (M.lay a pre).keys (a + sizeL pre) (bsI s ++ [0]).length = true := by
    rw [lay_keys, bz_len]
    exact h.mapped (by omega) (by omega)
  unfold PM.put
  rw [if_pos hm, ← bz_len s]
  exact putL_get _ _ _

theorem ofB_leB : ∀ (n : Nat) (x : Int), 0 ≤ x → x < 256 ^ n → ofB (leB x n) = x
  | 0, x, h0, h1 => by simp at h1; simp [leB, ofB]; omega
  | n + 1, x, h0, h1 => by
    show x % 256 + 256 * ofB (leB (x / 256) n) = x
    rw [ofB_leB n (x / 256) (by omega) (by
      have : x < 256 ^ n * 256 := by rw [← Int.pow_succ]; exact h1
      exact Int.ediv_lt_of_lt_mul (by omega) this)]
    omega

/-- May this be a capability? -/
def Cap.Ok (c : Cap) : Prop := Cap.U c ∧ (0 ≤ c.perms ∧ c.perms ≤ 255) ∧ (-1 ≤ c.typ ∧ c.typ ≤ 63)

theorem capAt_congr {M N : PM} {a : Int} (hb : ∀ x, a ≤ x → x < a + 32 → M.byte x = N.byte x) (ht : M.tag (a / 32) = N.tag (a / 32)) : M.capAt a = N.capAt a := by
  unfold PM.capAt
  rw [get_congr (M := M) (N := N) 8 a (fun x h1 h2 => hb x (by omega) (by omega)), get_congr (M := M) (N := N) 8 (a + 8) (fun x h1 h2 => hb x (by omega) (by omega)), get_congr (M := M) (N := N) 8 (a + 16) (fun x h1 h2 => hb x (by omega) (by omega)),
    hb (a + 24) (by omega) (by omega), hb (a + 25) (by omega) (by omega), ht]

theorem putL_append : ∀ (l k : List Int) (M : PM) (a : Int), M.putL a (l ++ k) = (M.putL a l).putL (a + l.length) k
  | [], k, M, a => by simp [PM.putL]
  | b :: r, k, M, a => by
    show (M.put1 a b).putL (a + 1) (r ++ k) = _
    rw [putL_append r]
    simp only [PM.putL, List.length_cons]
    congr 1
    omega

/-- A capability that has been stored is loaded. -/
theorem capAt_store (M : PM) (a : Int) (c : Cap) (hc : c.Ok) (t : Bool) : ((M.putL a (capB c)).setTag (a / 32) t).capAt a = { c with tag := t } := by
  obtain ⟨⟨⟨b0, b1⟩, ⟨t0, t1⟩, ⟨a0, a1⟩⟩, ⟨p0, p1⟩, ⟨y0, y1⟩⟩ := hc
  have hb : ∀ x, ((M.putL a (capB c)).setTag (a / 32) t).byte x = (M.putL a (capB c)).byte x := fun x => rfl
  have h8 : ∀ (o : Nat) (w : Int), o + 8 ≤ 32 → (∀ i, i < 8 → (capB c)[o + i]? = (leB w 8)[i]?) → 0 ≤ w → w < 18446744073709551616 → ofB (((M.putL a (capB c)).setTag (a / 32) t).get (a + o) 8) = w := by
    intro o w ho hi h0 h1
    have : ((M.putL a (capB c)).setTag (a / 32) t).get (a + o) 8 = leB w 8 := by
      refine List.ext_getElem? (fun i => ?_)
      by_cases h : i < 8
      · rw [get_getElem? _ _ _ _ h, hb, putL_byte, if_pos (by rw [capB_length]; omega), show (a + (o : Int) + (i : Int) - a).toNat = o + i by omega, ← hi i h]
        have hl : o + i < (capB c).length := by rw [capB_length]; omega
        simp [List.getD, hl]
      · rw [List.getElem?_eq_none (by rw [length_get]; omega), List.getElem?_eq_none (by rw [length_leB]; omega)]
    rw [this]
    exact ofB_leB 8 w h0 (by omega)
  have hget : ∀ (o : Nat) (v : Int), o < 32 → (capB c)[o]? = some v → ((M.putL a (capB c)).setTag (a / 32) t).byte (a + o) = v := by
    intro o v ho hv
    rw [hb, putL_byte, if_pos (by rw [capB_length]; omega), show (a + (o : Int) - a).toNat = o by omega]
    simp [List.getD, hv]
  have e0 : ∀ i, i < 8 → (capB c)[0 + i]? = (leB c.base 8)[i]? := fun i hi => by
    unfold capB
    rw [Nat.zero_add, List.append_assoc, List.append_assoc, List.getElem?_append_left (by rw [length_leB]; omega)]
  have e8 : ∀ i, i < 8 → (capB c)[8 + i]? = (leB c.top 8)[i]? := fun i hi => by
    unfold capB
    rw [List.append_assoc, List.append_assoc, List.getElem?_append_right (by rw [length_leB]; omega), length_leB, show 8 + i - 8 = i by omega, List.getElem?_append_left (by rw [length_leB]; omega)]
  have e16 : ∀ i, i < 8 → (capB c)[16 + i]? = (leB c.at_ 8)[i]? := fun i hi => by
    unfold capB
    rw [List.append_assoc, List.getElem?_append_right (by rw [List.length_append, length_leB, length_leB]; omega), List.length_append, length_leB, length_leB, show 16 + i - (8 + 8) = i by omega, List.getElem?_append_left (by rw [length_leB]; omega)]
  have e24 : (capB c)[24]? = some (c.perms % 256) := rfl
  have e25 : (capB c)[25]? = some (c.typ % 256) := rfl
  have g0 := h8 0 c.base (by omega) e0 b0 b1
  have g8 := h8 8 c.top (by omega) e8 t0 t1
  have g16 := h8 16 c.at_ (by omega) e16 a0 a1
  have g24 := hget 24 _ (by omega) e24
  have g25 := hget 25 _ (by omega) e25
  rw [show (a + ((0 : Nat) : Int)) = a by omega] at g0
  rw [show (a + ((8 : Nat) : Int)) = a + 8 by omega] at g8
  rw [show (a + ((16 : Nat) : Int)) = a + 16 by omega] at g16
  rw [show (a + ((24 : Nat) : Int)) = a + 24 by omega] at g24
  rw [show (a + ((25 : Nat) : Int)) = a + 25 by omega] at g25
  unfold PM.capAt
  rw [g0, g8, g16, g24, g25]
  have ht : ((M.putL a (capB c)).setTag (a / 32) t).tag (a / 32) = t := by simp [PM.setTag]
  rw [ht]
  have hy : (if c.typ % 256 ≥ 64 then -1 else c.typ % 256) = c.typ := by
    by_cases h : c.typ = -1
    · rw [h]; rfl
    · rw [if_neg (by omega)]; omega
  rw [hy, show c.perms % 256 = c.perms by omega]

/-- A capability of a list that has been laid. -/
theorem lst_cap {M : PM} {lo hi a : Int} (pre : List Cap) (c : Cap) (post : List Cap) (h : Inn M.keys lo hi) (h1 : lo ≤ a) (h2 : a + 32 * ((pre ++ c :: post).length : Nat) ≤ hi) (h3 : a % 32 = 0) (hc : c.Ok) :
    (M.lst a (pre ++ c :: post)).capAt (a + 32 * pre.length) = c := by
  rw [List.length_append, List.length_cons] at h2
  rw [PM.lst_append]
  show (((M.lst a pre).storeCap (a + 32 * pre.length) c).lst (a + 32 * pre.length + 32) post).capAt _ = _
  rw [capAt_congr (N := (M.lst a pre).storeCap (a + 32 * pre.length) c) (fun x h4 h5 => lst_out _ _ _ _ (by omega)) (lst_tout _ _ _ _ (by omega))]
  have hg : granE (M.lst a pre).keys (a + 32 * pre.length) = 0 := by
    rw [lst_keys]
    exact h.gran (by omega) (by omega) (by omega)
  unfold PM.storeCap
  rw [if_pos hg]
  exact capAt_store _ _ _ hc c.tag

theorem layC_ok : ∀ (l : List ByteArray) (a : Int), 0 ≤ a → a + sizeL l ≤ 16777216 → ∀ c ∈ layC a l, c.Ok
  | [], _, _, _, c, h => by simp [layC] at h
  | s :: r, a, h0, h1, c, h => by
    rw [sizeL_cons] at h1
    have := sizeL_nonneg r
    simp only [layC, List.mem_cons] at h
    rcases h with rfl | h
    · refine ⟨⟨⟨h0, by simp only [ofC]; omega⟩, ⟨by simp only [ofC]; omega, by simp only [ofC]; omega⟩, ⟨h0, by simp only [ofC]; omega⟩⟩, ⟨by simp [ofC], by simp [ofC]⟩, ⟨by simp [ofC], by simp [ofC]⟩⟩
    · exact layC_ok r _ (by omega) (by omega) c h
end TmP

end Go.Proofs.Ytkmbmbpjppjdjaa
