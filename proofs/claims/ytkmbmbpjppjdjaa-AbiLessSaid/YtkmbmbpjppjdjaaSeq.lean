/- A slice that reads as a list, and a row that is the call's own; how both are kept. -/
import Derived.Test.YtkmbmbpjppjdjaaBase
import Derived.OwnWalk
import Derived.Laws.OwnMore
import Derived.Laws.CopyOwn
namespace Go.Proofs.Ytkmbmbpjppjdjaa
open Go.RowKit
set_option linter.unusedSimpArgs false
set_option linter.unusedVariables false

/-- The slice v reads as the list l (elements of s cells each); its cells lie in a block of G. -/
def SeqAt {α : Type} (enc : α → List Value) (s : Nat) (w : World) (v : Value) (l : List α) (G : Nat → Prop) : Prop :=
  ∃ ao cap, v = .slice ao l.length cap ∧ l.length ≤ cap ∧
    (l = [] ∨ ∃ g off, ao = some ⟨g, off, none⟩ ∧ G g ∧ g < w.heap.size ∧
      ∀ (i : Nat) (x : α), l[i]? = some x → ∀ (j : Nat) (u : Value), (enc x)[j]? = some u → w.cell? ⟨g, off + i * s + j, none⟩ = some u)

section
variable {α : Type} {enc : α → List Value} {s : Nat} {w w' : World} {v : Value} {l : List α} {G F : Nat → Prop}

theorem SeqAt.kept (h : SeqAt enc s w v l G) (hk : Kept F w w') (hd : ∀ k, G k → ¬ F k) : SeqAt enc s w' v l G := by
  obtain ⟨ao, cap, hv, hc, h⟩ := h
  refine ⟨ao, cap, hv, hc, ?_⟩
  rcases h with h | ⟨g, off, ha, hg, hlt, hcell⟩
  · exact .inl h
  · exact .inr ⟨g, off, ha, hg, Nat.lt_of_lt_of_le hlt hk.size, fun i x hx j u hu => hk.cell (hcell i x hx j u hu) (hd g hg)⟩
theorem SeqAt.kept0 (h : SeqAt enc s w v l G) (hk : Kept Non w w') : SeqAt enc s w' v l G := h.kept hk (fun _ _ h => h)
theorem SeqAt.mono {G' : Nat → Prop} (h : SeqAt enc s w v l G) (hg : ∀ k, k < w.heap.size → G k → G' k) : SeqAt enc s w v l G' := by
  obtain ⟨ao, cap, hv, hc, h⟩ := h
  refine ⟨ao, cap, hv, hc, ?_⟩
  rcases h with h | ⟨g, off, ha, hgg, hlt, hcell⟩
  · exact .inl h
  · exact .inr ⟨g, off, ha, hg g hlt hgg, hlt, hcell⟩
theorem SeqAt.nil (enc : α → List Value) (s : Nat) (w : World) (G : Nat → Prop) : SeqAt enc s w (.slice none 0 0) [] G := ⟨none, 0, rfl, Nat.le_refl _, .inl rfl⟩

theorem ownsRow_kept {base e size n : Nat} {xs : List Value} (h : w.ownsRow base e size v n xs) (hk : Kept F w w') (hd : ∀ k, F k → k < base) : w'.ownsRow base e size v n xs := by
  obtain ⟨h1, h2⟩ := h
  refine ⟨h1, ?_⟩
  rcases h2 with h2 | ⟨g, cap, cur, hv, hg, hh, r⟩
  · exact .inl h2
  · exact .inr ⟨g, cap, cur, hv, hg, hk.blk hh (fun hf => by have := hd g hf; omega), r⟩
theorem ownsRow_kept0 {base e size n : Nat} {xs : List Value} (h : w.ownsRow base e size v n xs) (hk : Kept Non w w') : w'.ownsRow base e size v n xs := ownsRow_kept h hk (fun _ h => h.elim)

theorem ownsRow_mono {base base' e size n : Nat} {xs : List Value} (h : w.ownsRow base e size v n xs) (hb : base' ≤ base) : w.ownsRow base' e size v n xs := by
  obtain ⟨h1, h2⟩ := h
  refine ⟨h1, ?_⟩
  rcases h2 with h2 | ⟨g, cap, cur, hv, hg, r⟩
  · exact .inl h2
  · exact .inr ⟨g, cap, cur, hv, Nat.le_trans hb hg, r⟩

/-- A row of the call's own reads as a list. -/
theorem seq_of_own {base e size : Nat} {xs : List Value} (h : w.ownsRow base e size v l.length xs) (hx : xs = l.flatMap enc) (hs : ∀ x ∈ l, (enc x).length = size) : SeqAt enc size w v l (fun k => base ≤ k) := by
  obtain ⟨h1, h2⟩ := h
  rcases h2 with ⟨rfl, h2⟩ | ⟨g, cap, cur, rfl, hg, hh, hc, _, hcs, ht⟩
  · have : l = [] := List.eq_nil_of_length_eq_zero h2
    subst this
    exact ⟨none, 0, rfl, Nat.le_refl _, .inl rfl⟩
  · refine ⟨_, cap, rfl, hc, .inr ⟨g, 0, rfl, hg, lt_blk hh, fun i x hx' j u hu => ?_⟩⟩
    rw [cell_blk hh]
    have hfm : ∀ (l : List α), (∀ x ∈ l, (enc x).length = size) → ∀ i x, l[i]? = some x → ∀ j u, (enc x)[j]? = some u → (l.flatMap enc)[i * size + j]? = some u := by
      intro l
      induction l with
      | nil => intro _ i x hx; simp at hx
      | cons y r ih =>
        intro hs i x hx j u hu
        cases i with
        | zero =>
          simp at hx
          subst hx
          have hj : j < (enc y).length := (List.getElem?_eq_some_iff.1 hu).1
          rw [List.flatMap_cons, Nat.zero_mul, Nat.zero_add, List.getElem?_append_left hj]
          exact hu
        | succ i =>
          simp at hx
          have hl := hs y (by simp)
          rw [List.flatMap_cons, List.getElem?_append_right (by rw [hl, Nat.succ_mul]; omega), hl]
          have := ih (fun z hz => hs z (by simp [hz])) i x hx j u hu
          rw [show (i + 1) * size + j - size = i * size + j by rw [Nat.succ_mul]; omega]
          exact this
    have h3 := hfm l hs i x hx' j u hu
    rw [← hx, ← ht] at h3
    rw [List.getElem?_take] at h3
    split at h3
    · rw [Nat.zero_add]
      simpa using h3
    · simp at h3
end

/-- Elements of one cell. -/
def u8e (b : Int) : List Value := [.int .u8 b]
def u64e (b : Int) : List Value := [.int .u64 b]
def i64e (b : Int) : List Value := [.int .i64 b]

theorem map_flat1 {α : Type} (f : α → Value) (l : List α) : l.map f = l.flatMap fun x => [f x] := by
  induction l with
  | nil => rfl
  | cons y r ih => simp [ih]

/-- An element of one cell, at its place. -/
theorem SeqAt.at1 {α : Type} {f : α → Value} {w : World} {l : List α} {G : Nat → Prop} {ao : Option Addr} {n cap : Nat} (h : SeqAt (fun x => [f x]) 1 w (.slice ao n cap) l G) (hne : l ≠ []) :
    n = l.length ∧ ∃ g off, ao = some ⟨g, off, none⟩ ∧ G g ∧ g < w.heap.size ∧ ∀ (i : Nat) (x : α), l[i]? = some x → w.cell? ⟨g, off + i, none⟩ = some (f x) := by
  obtain ⟨ao', cap', hv, _, h⟩ := h
  cases hv
  rcases h with h | ⟨g, off, ha, hg, hlt, hc⟩
  · exact absurd h hne
  · exact ⟨rfl, g, off, ha, hg, hlt, fun i x hx => by simpa using hc i x hx 0 (f x) rfl⟩

/-- 'out = append(out, x)', out the call's own: x has been laid in a block of its own just before. W: the world as the call began. -/
theorem wpList_push {P : Program} {ops : Array Oper} {rest : List Oper} {o : Oper} {a : Act} {Q : Exit → Act → World → Prop} (W w0 : World) (cs : Array Value) (F : Nat → Prop) (hK : Kept F W w0)
    (hgd : o.guard = none) (sl x : Operand) (t : TypeId) (ho : o.op = .call { callee := .builtin .append, args := #[sl, x], argTypes := #[t, t] })
    (e : TypeId) (i : TypeInfo) (z : Value) (size bytes : Nat) (ht : P.underlying t = some (.slice e)) (hi : P.info? e = some i) (hz : i.zero = some z)
    (hsize : i.size = size) (hby : i.bytes = bytes) (hzs : z.cells.size = size) (hsz : 0 < size)
    (v : Value) (n : Nat) (xs : List Value) (hown : w0.ownsRow W.heap.size e size v n xs) (hs : a.eval sl = v) (hx : a.eval x = .slice (some ⟨w0.heap.size, 0, none⟩) 1 1)
    (hcs : cs.size = size) (h1 : ∀ u ∈ cs.toList, u.oneCell' = true) (h63 : n + 1 ≤ maxLen) (hbytes : (n + 1) * bytes ≤ 140737488355328)
    (h : ∀ v' w', w'.ownsRow W.heap.size e size v' (n + 1) (xs ++ cs.toList) → Kept F W w' → v' ≠ .slice none 0 0 → wpList P ops Q rest (a.put o.dst v') w') : wpList P ops Q (o :: rest) a (w0.alloc (.cells cs e)) := by
  have hsz' := hK.size
  have hlt : ∀ k, v.ownBlock = some k → W.heap.size ≤ k := fun k hk => by
    obtain ⟨_, h2⟩ := hown
    rcases h2 with ⟨rfl, _⟩ | ⟨g, cap, cur, rfl, hg, _⟩
    · cases hk
    · cases hk; exact hg
  refine wpList_append_own _ hgd sl x t ho W.heap.size e i z size bytes ht hi hz hsize hby hzs hsz v n xs hs ?_ ⟨w0.heap.size, 0, none⟩ 1 1 cs.toList hx (by simpa using hcs) ?_ h1 h63 hbytes ?_ ?_
  · exact ownsRow_kept0 hown ((Kept.refl Non w0).alloc _)
  · intro j u hj
    have hj' : j < cs.size := by
      have := (List.getElem?_eq_some_iff.1 hj).1
      simpa using this
    have : (Addr.add ⟨w0.heap.size, 0, none⟩ j) = ⟨w0.heap.size, j, none⟩ := by
      unfold Addr.add
      split
      · subst_vars; rfl
      · simp
    rw [this, cell_blk (blk_new w0 _)]
    simpa using hj
  · simp; omega
  · intro v' w' h2 h3 h4
    refine h v' w' h2 ((hK.alloc _).grown h3 (fun k hk => .inr (hlt k hk))) (fun e1 => ?_)
    have := (h4.1 e1).2
    omega

end Go.Proofs.Ytkmbmbpjppjdjaa
