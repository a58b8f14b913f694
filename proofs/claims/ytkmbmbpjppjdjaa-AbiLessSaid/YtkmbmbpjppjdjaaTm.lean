/- A memory with tags, as it lies in the program's heap: the map of its pages, and the pages. -/
import Derived.Test.YtkmbmbpjppjdjaaBase
import Derived.Test.YtkmbmbpjppjdjaaTmP
namespace Go.Proofs.Ytkmbmbpjppjdjaa
open Go.RowKit Go.Maps TmP
set_option linter.unusedSimpArgs false
set_option linter.unusedVariables false

theorem lawU : Keyed Try.prog 22 := int_keyed Try.underlying22

/-- How a page's pointer reads: nil, or its block's number. -/
def pgElem (v : Value) : Option (DataW Unit × List MemPlace) :=
  match v with
  | .pointer none => some (.nil, [])
  | .pointer (some ⟨b, 0, none⟩) => some (.lit (.int .u64 (b : Int)), [])
  | _ => none

theorem pgElem_nil_inv {v : Value} {ps : List MemPlace} (h : pgElem v = some (.nil, ps)) : v = .pointer none := by
  unfold pgElem at h
  split at h
  · rfl
  · simp at h
  · simp at h
theorem pgElem_lit_inv {v : Value} {b : Nat} {ps : List MemPlace} (h : pgElem v = some (.lit (.int .u64 (b : Int)), ps)) : v = .pointer (some ⟨b, 0, none⟩) := by
  unfold pgElem at h
  split at h
  · simp at h
  · simp at h
    obtain ⟨h1, _⟩ := h
    have : ‹Nat› = b := by omega
    subst this
    rfl
  · simp at h

def pgEntry (blk : Int → Nat) (k : Int) : Lit × DataW Unit := (.int .u64 k, .lit (.int .u64 (blk k : Int)))
def pd (keys : List Int) (blk : Int → Nat) : DataW Unit := .map (keys.map (pgEntry blk))

theorem same_int (a b : Int) : (Lit.int .u64 a).sameKey (.int .u64 b) = decide (a = b) := by simp [Lit.sameKey]

theorem has_pd (keys : List Int) (blk : Int → Nat) (k : Int) : Maps.has (pd keys blk) (.int .u64 k) = decide (k ∈ keys) := by
  simp only [pd, Maps.has, List.any_map]
  induction keys with
  | nil => simp
  | cons y r ih =>
    simp only [List.any_cons, Function.comp_apply, pgEntry, same_int] at *
    rw [ih]
    by_cases h : y = k <;> simp [h, List.mem_cons]
    intro e
    exact absurd e.symm h

theorem at_pd_in (keys : List Int) (blk : Int → Nat) (k : Int) (z : DataW Unit) (h : k ∈ keys) : (pd keys blk).atKey (.int .u64 k) z = .lit (.int .u64 (blk k : Int)) := by
  simp only [pd, DataW.atKey]
  induction keys with
  | nil => simp at h
  | cons y r ih =>
    by_cases e : y = k
    · subst e
      simp [List.find?_cons, pgEntry, Lit.sameKey]
    · have h' : k ∈ r := by
        rcases List.mem_cons.1 h with h | h
        · exact absurd h.symm e
        · exact h
      have := ih h'
      simpa [List.find?_cons, pgEntry, Lit.sameKey, e] using this
theorem at_pd_out (keys : List Int) (blk : Int → Nat) (k : Int) (z : DataW Unit) (h : k ∉ keys) : (pd keys blk).atKey (.int .u64 k) z = z := by
  simp only [pd, DataW.atKey]
  induction keys with
  | nil => simp
  | cons y r ih =>
    have e : y ≠ k := fun e => h (by simp [e])
    have := ih (fun h' => h (by simp [h']))
    simpa [List.find?_cons, pgEntry, Lit.sameKey, e] using this

theorem size_pd (keys : List Int) (blk : Int → Nat) : Maps.size (pd keys blk) = keys.length := by simp [pd, Maps.size]

/-- A page's pointer. -/
def pgPtr (keys : List Int) (blk : Int → Nat) (k : Int) : Value := if k ∈ keys then .pointer (some ⟨blk k, 0, none⟩) else .pointer none

theorem pg_val {keys : List Int} {blk : Int → Nat} {k : Int} {v : Value} {ps : List MemPlace} (hv : pgElem v = some ((pd keys blk).atKey (.int .u64 k) .nil, ps)) : v = pgPtr keys blk k := by
  unfold pgPtr
  by_cases hk : k ∈ keys
  · rw [at_pd_in _ _ _ _ hk] at hv
    rw [if_pos hk]
    exact pgElem_lit_inv hv
  · rw [at_pd_out _ _ _ _ hk] at hv
    rw [if_neg hk]
    exact pgElem_nil_inv hv

theorem insert_pg (blk : Int → Nat) (k : Int) : ∀ keys : List Int, DataW.insert (pgEntry blk k) (keys.map (pgEntry blk)) = (insK k keys).map (pgEntry blk)
  | [] => rfl
  | y :: r => by
    have ih := insert_pg blk k r
    simp only [List.map_cons, DataW.insert, insK]
    by_cases h : k < y
    · rw [if_pos h, if_pos (by simpa [pgEntry, Lit.before] using h)]
      rfl
    · rw [if_neg h, if_neg (by simpa [pgEntry, Lit.before] using h), ih]
      rfl

theorem put_pd (keys : List Int) (blk : Int → Nat) (k : Int) (b : Nat) (h : k ∉ keys) :
    (pd keys blk).put (.int .u64 k) (.lit (.int .u64 (b : Int))) = pd (insK k keys) (fun x => if x = k then b else blk x) := by
  simp only [pd, DataW.put]
  have e1 : (keys.map (pgEntry blk)).filter (fun p => !p.1.sameKey (.int .u64 k)) = keys.map (pgEntry fun x => if x = k then b else blk x) := by
    rw [List.filter_eq_self.2]
    · refine List.map_congr_left (fun x hx => ?_)
      have : x ≠ k := fun e => h (e ▸ hx)
      simp [pgEntry, this]
    · intro p hp
      obtain ⟨x, hx, rfl⟩ := List.mem_map.1 hp
      have : x ≠ k := fun e => h (e ▸ hx)
      simp [pgEntry, Lit.sameKey, this]
  rw [e1]
  have e2 := insert_pg (fun x => if x = k then b else blk x) k keys
  simpa [pgEntry] using e2

theorem del_pd (keys : List Int) (blk : Int → Nat) (k : Int) : (pd keys blk).del (.int .u64 k) = pd (keys.filter fun x => !decide (x = k)) blk := by
  simp only [pd, DataW.del, List.filter_map]
  congr 2
  refine List.filter_congr (fun x _ => ?_)
  simp [pgEntry, Lit.sameKey]

/-- Page p of M lies in block b. -/
def PageAt (w : World) (b : Nat) (M : PM) (p : Int) : Prop :=
  ∃ cs : Array Value, w.heap[b]? = some (.cells cs 100 (0, 0)) ∧ cs.size = 264 ∧
    (∀ i : Nat, i < 256 → cs[i]? = some (.int .u8 (M.byte (256 * p + i)))) ∧ (∀ j : Nat, j < 8 → cs[256 + j]? = some (.bool (M.tag (8 * p + j))))

theorem PageAt.of_blk {w w' : World} {b : Nat} {M : PM} {p : Int} (h : PageAt w b M p) (hb : w'.heap[b]? = w.heap[b]?) : PageAt w' b M p := by
  obtain ⟨cs, h1, h2⟩ := h
  exact ⟨cs, hb.trans h1, h2⟩

/-- The parts of a memory: the struct, the map, the pages. -/
structure Lies (w : World) (m bm : Nat) (blk : Int → Nat) (M : PM) (F : Nat → Prop) : Prop where
  wf : M.WF
  top : w.heap[m]? = some (.cells #[.map (some bm), .int .i64 M.budget] 83 (0, 0))
  own : w.ownsMap Try.prog 22 pgElem bm M.keys.length (pd M.keys blk)
  page : ∀ p ∈ M.keys, PageAt w (blk p) M p
  inj : ∀ p ∈ M.keys, ∀ q ∈ M.keys, blk p = blk q → p = q
  fm : F m
  fbm : F bm
  fpg : ∀ p ∈ M.keys, F (blk p)
  flt : ∀ k, F k → k < w.heap.size

def MemAt (w : World) (m : Nat) (M : PM) (F : Nat → Prop) : Prop := ∃ bm blk, Lies w m bm blk M F

theorem ownsMap_blk {w w' : World} {k : TypeId} {R : Value → Option (DataW Unit × List MemPlace)} {b n : Nat} {D : DataW Unit} (h : w.ownsMap Try.prog k R b n D) (hb : w'.heap[b]? = w.heap[b]?) : w'.ownsMap Try.prog k R b n D := by
  obtain ⟨es, clock, h1, r⟩ := h
  exact ⟨es, clock, hb.trans h1, r⟩

theorem Lies.kept {w w' : World} {m bm : Nat} {blk : Int → Nat} {M : PM} {F G : Nat → Prop} (h : Lies w m bm blk M F) (hk : Kept G w w') (hd : ∀ k, F k → ¬ G k) : Lies w' m bm blk M F where
  wf := h.wf
  top := hk.blk h.top (hd _ h.fm)
  own := ownsMap_blk h.own (hk.block bm h.own.lt (hd _ h.fbm))
  page := fun p hp => (h.page p hp).of_blk (hk.block _ (h.flt _ (h.fpg p hp)) (hd _ (h.fpg p hp)))
  inj := h.inj
  fm := h.fm
  fbm := h.fbm
  fpg := h.fpg
  flt := fun k hf => Nat.lt_of_lt_of_le (h.flt k hf) hk.size

theorem MemAt.kept {w w' : World} {m : Nat} {M : PM} {F G : Nat → Prop} (h : MemAt w m M F) (hk : Kept G w w') (hd : ∀ k, F k → ¬ G k) : MemAt w' m M F := by
  obtain ⟨bm, blk, h⟩ := h
  exact ⟨bm, blk, h.kept hk hd⟩
theorem MemAt.kept0 {w w' : World} {m : Nat} {M : PM} {F : Nat → Prop} (h : MemAt w m M F) (hk : Kept Non w w') : MemAt w' m M F := h.kept hk (fun _ _ h => h)
theorem Lies.kept0 {w w' : World} {m bm : Nat} {blk : Int → Nat} {M : PM} {F : Nat → Prop} (h : Lies w m bm blk M F) (hk : Kept Non w w') : Lies w' m bm blk M F := h.kept hk (fun _ _ h => h)
theorem MemAt.wf {w : World} {m : Nat} {M : PM} {F : Nat → Prop} (h : MemAt w m M F) : M.WF := by
  obtain ⟨bm, blk, h⟩ := h
  exact h.wf
theorem MemAt.lt {w : World} {m : Nat} {M : PM} {F : Nat → Prop} (h : MemAt w m M F) : ∀ k, F k → k < w.heap.size := by
  obtain ⟨bm, blk, h⟩ := h
  exact h.flt

section
variable {w : World} {m bm : Nat} {blk : Int → Nat} {M : PM} {F : Nat → Prop}

theorem Lies.c0 (h : Lies w m bm blk M F) : w.cell? ⟨m, 0, none⟩ = some (.map (some bm)) := by rw [cell_blk h.top]; rfl
theorem Lies.c1 (h : Lies w m bm blk M F) : w.cell? ⟨m, 1, none⟩ = some (.int .i64 M.budget) := by rw [cell_blk h.top]; rfl

theorem zeroPg (w : World) : (zeroValue 101).run Try.prog w = .ok (.pointer none) w := by kernel_rfl

theorem wfU {a : Int} (h0 : 0 ≤ a) (h1 : a < 18446744073709551616) : (Lit.int .u64 a).wf = true := WalkArith.wf_u64 (by omega)

/-- 'm.pages[k]'. -/
theorem Lies.look (h : Lies w m bm blk M F) {k : Int} (h0 : 0 ≤ k) (h1 : k < 18446744073709551616) :
    (Instr.lookup 81 (.map (some bm)) (.int .u64 k) false).run Try.prog w = .ok (pgPtr M.keys blk k) w := by
  have hkey := keyOf_int_mk Try.underlying22 (wfU h0 h1)
  obtain ⟨v, ps, hrun, hv⟩ := h.own.lookup lawU Try.underlying81 (zeroPg w) (zd := .nil) (zp := []) rfl hkey
  have e : v = pgPtr M.keys blk k := pg_val hv
  rw [hrun, e]

/-- '_, ok := m.pages[k]'. -/
theorem Lies.look_ok (h : Lies w m bm blk M F) {k : Int} (h0 : 0 ≤ k) (h1 : k < 18446744073709551616) :
    (Instr.lookup 81 (.map (some bm)) (.int .u64 k) true).run Try.prog w = .ok (.tuple #[pgPtr M.keys blk k, .bool (decide (k ∈ M.keys))]) w := by
  have hkey := keyOf_int_mk Try.underlying22 (wfU h0 h1)
  obtain ⟨v, ps, hrun, hv⟩ := h.own.look_ok lawU Try.underlying81 (zeroPg w) (zd := .nil) (zp := []) rfl hkey
  have e : v = pgPtr M.keys blk k := pg_val hv
  rw [hrun, has_pd, e]

/-- A page's byte. -/
theorem PageAt.byte {b : Nat} {p : Int} (h : PageAt w b M p) {i : Nat} (hi : i < 256) : w.cell? ⟨b, i, none⟩ = some (.int .u8 (M.byte (256 * p + i))) := by
  obtain ⟨cs, hb, _, hc, _⟩ := h
  rw [cell_blk hb]; exact hc i hi
theorem PageAt.tag {b : Nat} {p : Int} (h : PageAt w b M p) {j : Nat} (hj : j < 8) : w.cell? ⟨b, 256 + j, none⟩ = some (.bool (M.tag (8 * p + j))) := by
  obtain ⟨cs, hb, _, _, hc⟩ := h
  rw [cell_blk hb]; exact hc j hj
theorem PageAt.free {b : Nat} {p : Int} (h : PageAt w b M p) (i : Nat) : w.frozen? ⟨b, i, none⟩ = false := by
  obtain ⟨cs, hb, _⟩ := h
  exact free_blk hb i
end

end Go.Proofs.Ytkmbmbpjppjdjaa
