/- Walks: one cell more behind a slice whose array bears a mark (bytes of a string). -/
import Derived.Test.YtkmbmbpjppjdjaaSeq2
import Derived.Test.YtkmbmbpjppjdjaaTmPg
import Derived.ArgAppend
import Derived.Laws.IdiomStrings
import Derived.Deep.RegionHeld3
namespace Go.Proofs.Ytkmbmbpjppjdjaa
open Go.RowKit
set_option linter.unusedSimpArgs false
set_option linter.unusedVariables false
set_option maxRecDepth 100000

theorem free_mark {w : World} {b : Nat} {cs : Array Value} {t : TypeId} {fr : Nat × Nat} (h : w.heap[b]? = some (.cells cs t fr)) {i : Nat} (hi : i < fr.1) : w.frozen? ⟨b, i, none⟩ = false := by
  obtain ⟨lo, hi'⟩ := fr
  simp only [World.frozen?, h]
  simp
  intro h'
  simp only at hi
  omega

section
variable {P : Program}
theorem run_push1 (w : World) (t ty e : TypeId) (i : TypeInfo) (z : Value) (bytes : Nat) (ht : P.underlying t = some (.slice e)) (hi : P.info? e = some i) (hz : i.zero = some z) (hsize : i.size = 1) (hby : i.bytes = bytes) (hzs : z.cells.size = 1)
    (g n cap : Nat) (C : Array Value) (fr : Nat × Nat) (hblk : w.heap[g]? = some (.cells C e fr)) (hfr : C.size ≤ fr.1) (hcap : cap ≤ C.size) (hn : n ≤ cap)
    (g2 : Nat) (u : Value) (hx : w.cell? ⟨g2, 0, none⟩ = some u) (h1 : u.oneCell' = true) (h63 : n + 1 ≤ 4611686018427387904) (hbytes : (n + 1) * bytes ≤ 140737488355328) :
    ∃ ao cap' w', (Builtin.append_ #[t, t] ty #[.slice (some ⟨g, 0, none⟩) n cap, .slice (some ⟨g2, 0, none⟩) 1 1]).run P w = .ok (.slice ao (n + 1) cap') w' ∧
      SeqAt (fun b => [b]) 1 w' (.slice ao (n + 1) cap') (C.toList.take n ++ [u]) (fun k => k = g ∨ w.heap.size ≤ k) ∧ Kept (fun k => k = g) w w' := by
  have hlen : (C.toList.take n ++ [u]).length = n + 1 := by simp; omega
  have hnews : ∀ j v, ([u] : List Value)[j]? = some v → w.cell? ((⟨g2, 0, none⟩ : Addr).add j) = some v := fun j v hv => by
    cases j with
    | zero => simp at hv; subst hv; rw [addr_add']; exact hx
    | succ j => simp at hv
  by_cases hroom : n + 1 ≤ cap
  · have hcell : (w.cell? ⟨g, 0 + n * i.size + 0, none⟩).isSome = true := by
      rw [cell_blk hblk, hsize]; simp; omega
    have hr := run_append_room_cells (P := P) w t ty e i ht hi g 0 n cap ⟨g2, 0, none⟩ 1 1 [u] (by rw [hsize]; rfl) hnews (fun v hv => by simp at hv; subst hv; exact h1) hroom
      (fun j hj => by simp at hj; subst hj; exact hcell) (fun j hj => by simp at hj; subst hj; exact free_mark hblk (by rw [hsize]; omega))
    refine ⟨_, _, _, hr, ⟨_, cap, by rw [hlen], by rw [hlen]; exact hroom, .inr ⟨g, 0, rfl, .inl rfl, ?_, fun i' x hx' j u' hu => ?_⟩⟩, ?_⟩
    · rw [setCells_size]; exact lt_blk hblk
    · cases j with
      | succ j => simp at hu
      | zero =>
        simp at hu
        subst hu
        have hi' : i' < n + 1 := by rw [← hlen]; exact (List.getElem?_eq_some_iff.1 hx').1
        rw [Nat.mul_one, Nat.add_zero]
        by_cases e1 : i' = n
        · subst e1
          have := World.cell?_setCells_in g [u] (0 + i' * i.size) w (fun j hj => by simp at hj; subst hj; exact hcell) 0 (by simp)
          simp only [hsize, Nat.add_zero, Nat.mul_one, List.getElem_cons_zero] at this
          simp only [hsize, Nat.mul_one]
          rw [this]
          rw [List.getElem?_append_right (by simp; omega)] at hx'
          simp at hx'
          rw [show i' - min i' C.size = 0 by omega] at hx'
          simpa using hx'
        · rw [World.cell?_setCells_out g [u] _ w ⟨g, 0 + i', none⟩ (fun _ _ => .inl (by rw [hsize]; simp only; omega))]
          rw [cell_blk hblk, Nat.zero_add]
          rw [List.getElem?_append_left (by simp; omega), List.getElem?_take] at hx'
          rw [if_pos (by omega)] at hx'
          simpa using hx'
    · exact (Kept.refl (fun k => k = g) w).setCells (b := g) (.inl rfl) _ _
  · obtain rfl : n = cap := by omega
    have holds : ∀ j v, (C.toList.take n)[j]? = some v → w.cell? ((⟨g, 0, none⟩ : Addr).add j) = some v := fun j v hv => by
      rw [addr_add', cell_blk hblk, Nat.zero_add]
      rw [List.getElem?_take] at hv
      split at hv
      · simpa using hv
      · cases hv
    have hr := run_append_grow (P := P) w t ty e i z ht hi hz ⟨g, 0, none⟩ n n (C.toList.take n) (by rw [hsize]; simp; omega) holds ⟨g2, 0, none⟩ 1 1 [u] (by rw [hsize]; rfl) hnews (by omega) (by omega)
      (by rw [hby]; exact growslice_fits (by omega) hbytes)
    have hG := grownCap_ge w (n + 1) n e
    refine ⟨_, _, _, hr, ⟨_, _, by rw [hlen], by rw [hlen]; exact hG, .inr ⟨w.heap.size, 0, rfl, .inr (Nat.le_refl _), by simp, fun i' x hx' j u' hu => ?_⟩⟩, ?_⟩
    · cases j with
      | succ j => simp at hu
      | zero =>
        simp at hu
        subst hu
        have hi' : i' < n + 1 := by rw [← hlen]; exact (List.getElem?_eq_some_iff.1 hx').1
        rw [Nat.mul_one, Nat.add_zero, Nat.zero_add]
        have hb := blk_new w.drew (.cells ((C.toList.take n).toArray ++ [u].toArray ++ Builtin.zeroCells z.cells (grownCap w (n + 1) n e - (n + 1))) e)
        have hb' : (w.drew.alloc (.cells ((C.toList.take n).toArray ++ [u].toArray ++ Builtin.zeroCells z.cells (grownCap w (n + 1) n e - (n + 1))) e)).heap[w.heap.size]? = _ := hb
        rw [cell_blk hb']
        rw [Array.getElem?_append_left (by simp; omega)]
        have : ((List.take n C.toList).toArray ++ [u].toArray) = (C.toList.take n ++ [u]).toArray := by simp
        rw [this, List.getElem?_toArray]
        exact hx'
    · exact ((Kept.refl _ w).drew).alloc _

/-- As a step of a region that draws its order. -/
theorem step_push1 {w : World} {ops : Array Oper} {o : Oper} {a : Act} {K : Act → World → Prop} {Q : Exit → Act → World → Prop} {E : Prop} (hgd : o.guard = none) (s x : Operand) (t : TypeId)
    (ho : o.op = .call { callee := .builtin .append, args := #[s, x], argTypes := #[t, t] })
    (e : TypeId) (i : TypeInfo) (z : Value) (bytes : Nat) (ht : P.underlying t = some (.slice e)) (hi : P.info? e = some i) (hz : i.zero = some z) (hsize : i.size = 1) (hby : i.bytes = bytes) (hzs : z.cells.size = 1)
    (g n cap : Nat) (hs : a.eval s = .slice (some ⟨g, 0, none⟩) n cap) (g2 : Nat) (hxv : a.eval x = .slice (some ⟨g2, 0, none⟩) 1 1)
    (C : Array Value) (fr : Nat × Nat) (hblk : w.heap[g]? = some (.cells C e fr)) (hfr : C.size ≤ fr.1) (hcap : cap ≤ C.size) (hn : n ≤ cap)
    (u : Value) (hx : w.cell? ⟨g2, 0, none⟩ = some u) (h1 : u.oneCell' = true) (h63 : n + 1 ≤ 4611686018427387904) (hbytes : (n + 1) * bytes ≤ 140737488355328)
    (h : ∀ ao cap' w', SeqAt (fun b => [b]) 1 w' (.slice ao (n + 1) cap') (C.toList.take n ++ [u]) (fun k => k = g ∨ w.heap.size ≤ k) → Kept (fun k => k = g) w w' → K (a.put o.dst (.slice ao (n + 1) cap')) w') :
    if Region.wanted o (yielded ops a.tmps) = true then Oper.wp P o a w K Q else E := by
  have hw : Region.wanted o (yielded ops a.tmps) = true := by simp [Region.wanted, hgd]
  rw [if_pos hw]
  obtain ⟨ao, cap', w', hr, h2, h3⟩ := run_push1 (P := P) w t o.type e i z bytes ht hi hz hsize hby hzs g n cap C fr hblk hfr hcap hn g2 u hx h1 h63 hbytes
  unfold Oper.wp execOp
  simp only [ho, resolve, invoke, builtin, Sem.run_bind, Sem.run_pure, Result.andThen_ok, List.map_toArray, List.map_cons, List.map_nil, hs, hxv, hr]
  exact h ao cap' w' h2 h3
end

/-- 'out = append(out, x)', out the call's own: x has been laid in a block of its own just before. All below 'base' stays. -/
theorem wpList_push2 {P : Program} {ops : Array Oper} {rest : List Oper} {o : Oper} {a : Act} {Q : Exit → Act → World → Prop} (base : Nat) (w0 : World) (cs : Array Value) (hb : base ≤ w0.heap.size)
    (hgd : o.guard = none) (sl x : Operand) (t : TypeId) (ho : o.op = .call { callee := .builtin .append, args := #[sl, x], argTypes := #[t, t] })
    (e : TypeId) (i : TypeInfo) (z : Value) (size bytes : Nat) (ht : P.underlying t = some (.slice e)) (hi : P.info? e = some i) (hz : i.zero = some z)
    (hsize : i.size = size) (hby : i.bytes = bytes) (hzs : z.cells.size = size) (hsz : 0 < size)
    (v : Value) (n : Nat) (xs : List Value) (hown : w0.ownsRow base e size v n xs) (hs : a.eval sl = v) (hx : a.eval x = .slice (some ⟨w0.heap.size, 0, none⟩) 1 1)
    (hcs : cs.size = size) (h1 : ∀ u ∈ cs.toList, u.oneCell' = true) (h63 : n + 1 ≤ maxLen) (hbytes : (n + 1) * bytes ≤ 140737488355328)
    (h : ∀ v' w', w'.ownsRow base e size v' (n + 1) (xs ++ cs.toList) → Kept (fun k => base ≤ k) w0 w' → v' ≠ .slice none 0 0 → wpList P ops Q rest (a.put o.dst v') w') : wpList P ops Q (o :: rest) a (w0.alloc (.cells cs e)) := by
  have hlt : ∀ k, v.ownBlock = some k → base ≤ k := fun k hk => by
    obtain ⟨_, h2⟩ := hown
    rcases h2 with ⟨rfl, _⟩ | ⟨g, cap, cur, rfl, hg, _⟩
    · cases hk
    · cases hk; exact hg
  refine wpList_append_own _ hgd sl x t ho base e i z size bytes ht hi hz hsize hby hzs hsz v n xs hs ?_ ⟨w0.heap.size, 0, none⟩ 1 1 cs.toList hx (by simpa using hcs) ?_ h1 h63 hbytes ?_ ?_
  · exact ownsRow_kept0 hown ((Kept.refl Non w0).alloc _)
  · intro j u hj
    rw [addr_add', cell_blk (blk_new w0 _)]
    simpa using hj
  · simp; omega
  · intro v' w' h2 h3 h4
    refine h v' w' h2 (((Kept.refl _ w0).alloc _).grown h3 (fun k hk => .inl (hlt k hk))) (fun e1 => ?_)
    have := (h4.1 e1).2
    omega

end Go.Proofs.Ytkmbmbpjppjdjaa
