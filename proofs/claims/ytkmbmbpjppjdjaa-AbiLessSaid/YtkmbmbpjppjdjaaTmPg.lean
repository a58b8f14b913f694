/- A page's bytes and tags are written: what the memory is then. -/
import Derived.Test.YtkmbmbpjppjdjaaTmW2
import Derived.Laws.IdiomCopy
namespace Go.Proofs.Ytkmbmbpjppjdjaa
open Go.RowKit Go.Maps TmP
set_option linter.unusedSimpArgs false
set_option linter.unusedVariables false

namespace TmP
def PM.raw1 (M : PM) (a b : Int) : PM := { M with byte := fun x => if x = a then b else M.byte x }
/-- Bytes are written, no tag is touched. -/
def PM.rawL (M : PM) (a : Int) : List Int → PM
  | [] => M
  | b :: r => (M.raw1 a b).rawL (a + 1) r

theorem rawL_keys : ∀ (l : List Int) (M : PM) (a : Int), (M.rawL a l).keys = M.keys
  | [], _, _ => rfl
  | b :: r, M, a => (rawL_keys r (M.raw1 a b) (a + 1)).trans rfl
theorem rawL_budget : ∀ (l : List Int) (M : PM) (a : Int), (M.rawL a l).budget = M.budget
  | [], _, _ => rfl
  | b :: r, M, a => (rawL_budget r (M.raw1 a b) (a + 1)).trans rfl
theorem rawL_tag : ∀ (l : List Int) (M : PM) (a : Int), (M.rawL a l).tag = M.tag
  | [], _, _ => rfl
  | b :: r, M, a => (rawL_tag r (M.raw1 a b) (a + 1)).trans rfl
theorem rawL_byte : ∀ (l : List Int) (M : PM) (a x : Int), (M.rawL a l).byte x = if a ≤ x ∧ x < a + l.length then l.getD (x - a).toNat 0 else M.byte x
  | [], M, a, x => by
    rw [if_neg (by simp only [List.length_nil]; omega)]
    rfl
  | b :: r, M, a, x => by
    show ((M.raw1 a b).rawL (a + 1) r).byte x = _
    rw [rawL_byte r (M.raw1 a b) (a + 1) x]
    simp only [List.length_cons]
    by_cases e : x = a
    · subst e
      rw [if_neg (by omega), if_pos (by omega)]
      simp [PM.raw1]
    · by_cases h : a + 1 ≤ x ∧ x < a + 1 + r.length
      · rw [if_pos h, if_pos (by omega)]
        obtain ⟨k, hk⟩ : ∃ k : Nat, x = a + 1 + k := ⟨(x - a - 1).toNat, by omega⟩
        subst hk
        rw [show (a + 1 + (k : Int) - (a + 1)).toNat = k by omega, show (a + 1 + (k : Int) - a).toNat = k + 1 by omega]
        simp
      · rw [if_neg h, if_neg (by omega)]
        simp [PM.raw1, e]

theorem PM.ext' {M N : PM} (h1 : M.keys = N.keys) (h2 : ∀ x, M.byte x = N.byte x) (h3 : ∀ g, M.tag g = N.tag g) (h4 : M.budget = N.budget) : M = N := by
  cases M; cases N
  simp only [PM.mk.injEq]
  exact ⟨h1, funext h2, funext h3, h4⟩

/-- Bytes of one granule, and its tag. -/
theorem rawL_setTag (M : PM) (a : Int) (l : List Int) (t : Bool) (hl : l ≠ []) (hg : (a + l.length - 1) / 32 = a / 32) : (M.rawL a l).setTag (a / 32) t = (M.putL a l).setTag (a / 32) t := by
  refine PM.ext' ?_ (fun x => ?_) (fun g => ?_) ?_
  · simp only [PM.setTag, rawL_keys, putL_keys]
  · simp only [PM.setTag, rawL_byte, putL_byte]
  · simp only [PM.setTag, rawL_tag, putL_tag, hg]
    by_cases e : g = a / 32
    · simp [e]
    · rw [if_neg e, if_neg e, if_neg (by intro hh; exact e (by omega))]
  · simp only [PM.setTag, rawL_budget, putL_budget]

theorem putL_setTag_false (M : PM) (a : Int) (l : List Int) (hl : l ≠ []) (hg : (a + l.length - 1) / 32 = a / 32) : (M.putL a l).setTag (a / 32) false = M.putL a l := by
  refine PM.ext' rfl (fun x => rfl) (fun g => ?_) rfl
  simp only [PM.setTag, putL_tag, hg]
  by_cases e : g = a / 32
  · subst e
    rw [if_pos rfl, if_pos ⟨hl, by omega, by omega⟩]
  · rw [if_neg e]

theorem rawL_wf {l : List Int} {M : PM} (h : M.WF) {a : Int} (hl : ∀ b ∈ l, 0 ≤ b ∧ b ≤ 255) (ha : ∀ i : Nat, i < l.length → (a + (i : Int)) / 256 ∈ M.keys) : (M.rawL a l).WF := by
  have hp := PM.WF.putL l h hl ha
  refine ⟨by rw [rawL_keys]; exact h.sorted, by rw [rawL_keys]; exact h.range, fun x => ?_, fun x => ?_, fun x hx => ?_, fun g hg => ?_, ?_, ?_⟩
  · rw [rawL_byte, ← putL_byte]; exact hp.lo x
  · rw [rawL_byte, ← putL_byte]; exact hp.hi x
  · rw [rawL_byte, ← putL_byte]; exact hp.bz x (by rw [putL_keys]; rwa [rawL_keys] at hx)
  · rw [rawL_tag]; exact h.tz g (by rwa [rawL_keys] at hg)
  · rw [rawL_keys, rawL_budget]; exact h.few
  · rw [rawL_budget]; exact h.most
end TmP
open TmP

theorem PageAt.setByte {w : World} {b : Nat} {M : PM} {p : Int} (h : PageAt w b M p) {i : Nat} (hi : i < 256) (x : Int) :
    PageAt (w.setCell ⟨b, i, none⟩ (.int .u8 x)) b (M.raw1 (256 * p + i) x) p := by
  obtain ⟨cs, h1, h2, h3, h4⟩ := h
  refine ⟨_, blk_setCell h1 i _, by simpa using h2, fun j hj => ?_, fun j hj => ?_⟩
  · simp only [PM.raw1, Array.getElem?_setIfInBounds]
    by_cases e : i = j
    · subst e
      rw [if_pos rfl, if_pos (by omega), if_pos rfl]
    · rw [if_neg e, if_neg (by omega)]
      exact h3 j hj
  · simp only [PM.raw1, Array.getElem?_setIfInBounds]
    rw [if_neg (by omega)]
    exact h4 j hj
theorem PageAt.setTg {w : World} {b : Nat} {M : PM} {p : Int} (h : PageAt w b M p) {j : Nat} (hj : j < 8) (t : Bool) :
    PageAt (w.setCell ⟨b, 256 + j, none⟩ (.bool t)) b (M.setTag (8 * p + j) t) p := by
  obtain ⟨cs, h1, h2, h3, h4⟩ := h
  refine ⟨_, blk_setCell h1 _ _, by simpa using h2, fun i hi => ?_, fun i hi => ?_⟩
  · simp only [PM.setTag, Array.getElem?_setIfInBounds]
    rw [if_neg (by omega)]
    exact h3 i hi
  · simp only [PM.setTag, Array.getElem?_setIfInBounds]
    by_cases e : j = i
    · subst e
      rw [if_pos rfl, if_pos (by omega), if_pos rfl]
    · rw [if_neg (by omega), if_neg (by omega)]
      exact h4 i hi

theorem PageAt.setBytes {b : Nat} {p : Int} : ∀ (l : List Int) {w : World} {M : PM} {o : Nat} (h : PageAt w b M p) (ho : o + l.length ≤ 256),
    PageAt (w.setCells b o (l.map (Value.int .u8))) b (M.rawL (256 * p + o) l) p
  | [], _, _, _, h, _ => h
  | x :: r, w, M, o, h, ho => by
    simp only [List.length_cons] at ho
    have h1 := PageAt.setBytes r (o := o + 1) (h.setByte (i := o) (by omega) x) (by omega)
    rw [show 256 * p + ((o + 1 : Nat) : Int) = 256 * p + o + 1 by omega] at h1
    exact h1

theorem setCells_other (b : Nat) : ∀ (vs : List Value) (o : Nat) (w : World) (k : Nat), k ≠ b → (w.setCells b o vs).heap[k]? = w.heap[k]?
  | [], _, _, _, _ => rfl
  | v :: r, o, w, k, h => (setCells_other b r (o + 1) _ k h).trans (blk_setCell_ne (p := ⟨b, o, none⟩) h v)
theorem setCells_size (b : Nat) : ∀ (vs : List Value) (o : Nat) (w : World), (w.setCells b o vs).heap.size = w.heap.size
  | [], _, _ => rfl
  | v :: r, o, w => (setCells_size b r (o + 1) _).trans (by simp [World.setCell])
theorem Kept.setCells {F : Nat → Prop} {w w' : World} {b : Nat} (h : Kept F w w') (hb : F b ∨ w.heap.size ≤ b) : ∀ (vs : List Value) (o : Nat), Kept F w (w'.setCells b o vs) := by
  intro vs
  induction vs generalizing w' with
  | nil => exact fun _ => h
  | cons v r ih => exact fun o => ih (h.setCell (p := ⟨b, o, none⟩) hb v) (o + 1)

/-- One page is written. -/
theorem Lies.write {w w' : World} {m bm : Nat} {blk : Int → Nat} {M M' : PM} {F : Nat → Prop} (h : Lies w m bm blk M F) {p : Int} (hp : p ∈ M.keys) (hwf : M'.WF) (hk : M'.keys = M.keys) (hb : M'.budget = M.budget)
    (hpage : PageAt w' (blk p) M' p) (hsz : w.heap.size ≤ w'.heap.size) (hoth : ∀ k, k < w.heap.size → k ≠ blk p → w'.heap[k]? = w.heap[k]?)
    (hby : ∀ a, a / 256 ≠ p → M'.byte a = M.byte a) (htg : ∀ g, g / 8 ≠ p → M'.tag g = M.tag g) : Lies w' m bm blk M' F := by
  obtain ⟨cs, hpc, _⟩ := h.page p hp
  refine ⟨hwf, ?_, ?_, fun q hq => ?_, by rw [hk]; exact h.inj, h.fm, h.fbm, by rw [hk]; exact h.fpg, fun k hf => Nat.lt_of_lt_of_le (h.flt k hf) hsz⟩
  · rw [hb, hoth m (h.flt m h.fm) (fun e => by
      have := h.top
      rw [e, hpc] at this
      cases this)]
    exact h.top
  · rw [hk]
    refine ownsMap_blk h.own (hoth bm (h.flt bm h.fbm) (fun e => ?_))
    obtain ⟨es, cl, h2, _⟩ := h.own
    rw [e, hpc] at h2
    cases h2
  · rw [hk] at hq
    by_cases e : q = p
    · subst e; exact hpage
    · refine ((h.page q hq).of_blk (hoth _ (h.flt _ (h.fpg q hq)) (fun e1 => e (h.inj q hq p hp e1)))).congr (fun i hi => ?_) (fun j hj => ?_)
      · exact hby _ (by rw [show (256 * q + (i : Int)) / 256 = q by omega]; exact e)
      · exact htg _ (by rw [show (8 * q + (j : Int)) / 8 = q by omega]; exact e)

theorem Lies.writeB {w : World} {m bm : Nat} {blk : Int → Nat} {M : PM} {F : Nat → Prop} (h : Lies w m bm blk M F) {a : Int} (ha : a / 256 ∈ M.keys) (l : List Int) (hl : ∀ b ∈ l, 0 ≤ b ∧ b ≤ 255) (hfit : a % 256 + l.length ≤ 256) :
    Lies (w.setCells (blk (a / 256)) (a % 256).toNat (l.map (Value.int .u8))) m bm blk (M.rawL a l) F := by
  have h1 := PageAt.setBytes l (o := (a % 256).toNat) (h.page _ ha) (by omega)
  rw [show 256 * (a / 256) + (((a % 256).toNat : Nat) : Int) = a by omega] at h1
  refine h.write ha (rawL_wf h.wf hl (fun i hi => ?_)) (rawL_keys _ _ _) (rawL_budget _ _ _) h1 (by rw [setCells_size]; exact Nat.le_refl _) (fun k _ hk => setCells_other _ _ _ _ _ hk) (fun x hx => ?_) (fun g _ => by rw [rawL_tag])
  · rw [show (a + (i : Int)) / 256 = a / 256 by omega]; exact ha
  · rw [rawL_byte, if_neg (by omega)]

theorem Lies.writeT {w : World} {m bm : Nat} {blk : Int → Nat} {M : PM} {F : Nat → Prop} (h : Lies w m bm blk M F) {a : Int} (ha : a / 256 ∈ M.keys) (t : Bool) :
    Lies (w.setCell ⟨blk (a / 256), 256 + (a % 256 / 32).toNat, none⟩ (.bool t)) m bm blk (M.setTag (a / 32) t) F := by
  have h1 := (h.page _ ha).setTg (j := (a % 256 / 32).toNat) (by omega) t
  rw [show 8 * (a / 256) + (((a % 256 / 32).toNat : Nat) : Int) = a / 32 by omega] at h1
  refine h.write ha (h.wf.setTag (by rw [show a / 32 / 8 = a / 256 by omega]; exact ha)) rfl rfl h1 (by simp [World.setCell]) (fun k _ hk => blk_setCell_ne (p := ⟨_, _, none⟩) hk _) (fun x hx => rfl) (fun g hg => ?_)
  simp only [PM.setTag]
  rw [if_neg (by omega)]

theorem Lies.write1 {w : World} {m bm : Nat} {blk : Int → Nat} {M : PM} {F : Nat → Prop} (h : Lies w m bm blk M F) {a : Int} (ha : a / 256 ∈ M.keys) (x : Int) (h0 : 0 ≤ x) (h1 : x ≤ 255) :
    Lies (w.setCell ⟨blk (a / 256), (a % 256).toNat, none⟩ (.int .u8 x)) m bm blk (M.raw1 a x) F :=
  h.writeB ha [x] (by simp; omega) (by simp; omega)

theorem infoSz : (Try.prog.info? 5).map (·.size) = some 1 := by kernel_rfl

/-- 'copy' into a page's bytes. -/
theorem copy_page {w : World} {b : Nat} {M : PM} {p : Int} (h : PageAt w b M p) (o g off dLen dCap sLen sCap : Nat) (l : List Int) (ty : TypeId) (hn : l.length = Nat.min sLen dLen) (hfit : o + l.length ≤ 256)
    (hsrc : ∀ (i : Nat) (x : Int), l[i]? = some x → w.cell? ⟨g, off + i, none⟩ = some (.int .u8 x)) :
    (Builtin.copy_ #[63, 63] ty #[.slice (some ⟨b, o, none⟩) dLen dCap, .slice (some ⟨g, off, none⟩) sLen sCap]).run Try.prog w = .ok (.int .i64 l.length) (w.setCells b o (l.map (Value.int .u8))) := by
  have := run_copy_cells (P := Try.prog) w 63 63 ty 5 b o dLen dCap ⟨g, off, none⟩ sLen sCap (l.map (Value.int .u8)) Try.underlying63 infoSz (by simpa using hn)
    (fun j v hv => by
      rw [List.getElem?_map] at hv
      obtain ⟨x, hx, rfl⟩ := Option.map_eq_some_iff.1 hv
      have := hsrc j x hx
      unfold Addr.add
      split
      · subst_vars; simpa using this
      · exact this)
    (fun j hj => by
      rw [List.length_map] at hj
      rw [h.byte (i := o + j) (by omega)]
      rfl)
    (fun j hj => h.free _)
    (fun v hv => by
      obtain ⟨x, _, rfl⟩ := List.mem_map.1 hv
      rfl)
  simpa [goInt] using this

/-- A row of bytes of the call's own, not empty. -/
theorem own_bytes {w : World} {base e : Nat} {v : Value} {n : Nat} {l : List Int} (h : w.ownsRow base e 1 v n (l.map (Value.int .u8))) (hn : 0 < n) :
    n = l.length ∧ ∃ g cap, v = .slice (some ⟨g, 0, none⟩) n cap ∧ base ≤ g ∧ g < w.heap.size ∧ n ≤ cap ∧ ∀ (i : Nat) (x : Int), l[i]? = some x → w.cell? ⟨g, 0 + i, none⟩ = some (.int .u8 x) := by
  obtain ⟨h1, h2⟩ := h
  simp at h1
  refine ⟨h1.symm, ?_⟩
  rcases h2 with ⟨_, h2⟩ | ⟨g, cap, cur, rfl, hg, hh, hc, _, hcs, ht⟩
  · omega
  · refine ⟨g, cap, rfl, hg, lt_blk hh, hc, fun i x hx => ?_⟩
    rw [cell_blk hh, Nat.zero_add]
    have h3 : (l.map (Value.int .u8))[i]? = some (.int .u8 x) := by rw [List.getElem?_map, hx]; rfl
    rw [← ht, List.getElem?_take] at h3
    split at h3
    · simpa using h3
    · simp at h3

end Go.Proofs.Ytkmbmbpjppjdjaa
