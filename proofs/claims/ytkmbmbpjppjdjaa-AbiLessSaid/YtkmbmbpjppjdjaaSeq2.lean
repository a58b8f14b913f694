/- Walks: slices of strings are laid one behind the other. -/
import Derived.Test.YtkmbmbpjppjdjaaSeq
import Derived.Lib.AppendZerosOnto
import Derived.Laws.AppendOwnNone
namespace Go.Proofs.Ytkmbmbpjppjdjaa
open Go.RowKit
set_option linter.unusedSimpArgs false
set_option linter.unusedVariables false
set_option maxRecDepth 100000

/-- The nil slice has no room. -/
def Slc (v : Value) : Prop := v = .slice none 0 0 ∨ ∃ a n c, v = .slice (some a) n c

theorem slc_own {w : World} {base e size n : Nat} {v : Value} {xs : List Value} (h : w.ownsRow base e size v n xs) : Slc v := by
  obtain ⟨_, ⟨h, _⟩ | ⟨g, cap, cur, h, _⟩⟩ := h
  · exact .inl h
  · exact .inr ⟨_, _, _, h⟩

theorem flat_get {α : Type} {enc : α → List Value} {size : Nat} : ∀ (l : List α), (∀ x ∈ l, (enc x).length = size) → ∀ (k : Nat) (u : Value), (l.flatMap enc)[k]? = some u → ∃ i x j, l[i]? = some x ∧ (enc x)[j]? = some u ∧ k = i * size + j
  | [], _, k, u, h => by simp at h
  | y :: r, hs, k, u, h => by
    have hl := hs y (by simp)
    rw [List.flatMap_cons] at h
    by_cases hk : k < size
    · rw [List.getElem?_append_left (by omega)] at h
      exact ⟨0, y, k, rfl, h, by simp⟩
    · rw [List.getElem?_append_right (by omega)] at h
      obtain ⟨i, x, j, h1, h2, h3⟩ := flat_get r (fun z hz => hs z (by simp [hz])) (k - (enc y).length) u h
      exact ⟨i + 1, x, j, by simpa using h1, h2, by rw [Nat.succ_mul]; omega⟩

theorem flat_len {α : Type} {enc : α → List Value} {size : Nat} : ∀ (l : List α), (∀ x ∈ l, (enc x).length = size) → (l.flatMap enc).length = l.length * size
  | [], _ => by simp
  | y :: r, hs => by
    rw [List.flatMap_cons, List.length_append, hs y (by simp), flat_len r (fun z hz => hs z (by simp [hz])), List.length_cons, Nat.succ_mul]
    omega

theorem addr_add' (b o k : Nat) : (Addr.add ⟨b, o, none⟩ k) = ⟨b, o + k, none⟩ := by
  unfold Addr.add
  split
  · rename_i e; subst e; rfl
  · rfl

/-- 'out = append(out, s...)', out the call's own. W: the world as the call began. -/
theorem wpList_cat {P : Program} {ops : Array Oper} {rest : List Oper} {o : Oper} {a : Act} {Q : Exit → Act → World → Prop} {α : Type} {enc : α → List Value} (W w0 : World) (F G : Nat → Prop) (hK : Kept F W w0)
    (hgd : o.guard = none) (sl x : Operand) (t : TypeId) (ho : o.op = .call { callee := .builtin .append, args := #[sl, x], argTypes := #[t, t] })
    (e : TypeId) (i : TypeInfo) (z : Value) (size bytes : Nat) (ht : P.underlying t = some (.slice e)) (hi : P.info? e = some i) (hz : i.zero = some z)
    (hsize : i.size = size) (hby : i.bytes = bytes) (hzs : z.cells.size = size) (hsz : 0 < size)
    (v : Value) (n : Nat) (xs : List Value) (hown : w0.ownsRow W.heap.size e size v n xs) (hs : a.eval sl = v)
    (sv : Value) (l : List α) (hx : a.eval x = sv) (hq : SeqAt enc size w0 sv l G) (hsv : Slc sv) (hl : ∀ x ∈ l, (enc x).length = size) (h1 : ∀ x ∈ l, ∀ u ∈ enc x, u.oneCell' = true)
    (h63 : n + l.length ≤ maxLen) (hbytes : (n + l.length) * bytes ≤ 140737488355328)
    (h : ∀ v' w', w'.ownsRow W.heap.size e size v' (n + l.length) (xs ++ l.flatMap enc) → Kept F W w' → wpList P ops Q rest (a.put o.dst v') w') : wpList P ops Q (o :: rest) a w0 := by
  have hsz' := hK.size
  have hlt : ∀ k, v.ownBlock = some k → W.heap.size ≤ k := fun k hk => by
    obtain ⟨_, h2⟩ := hown
    rcases h2 with ⟨rfl, _⟩ | ⟨g, cap, cur, rfl, hg, _⟩
    · cases hk
    · cases hk; exact hg
  obtain ⟨ao, cap, rfl, hcap, hq⟩ := hq
  rcases hsv with hsv | ⟨ad, n', c', hsv⟩
  · simp only [Value.slice.injEq] at hsv
    obtain ⟨rfl, hn0, rfl⟩ := hsv
    have hl0 : l = [] := List.eq_nil_of_length_eq_zero hn0
    subst hl0
    refine wpList_append_own_none hgd sl x t ho W.heap.size e i size ht hi v n xs hs hown hx ?_
    exact h v w0 (by simpa using hown) hK
  · cases hsv
    refine wpList_append_own _ hgd sl x t ho W.heap.size e i z size bytes ht hi hz hsize hby hzs hsz v n xs hs hown ad l.length cap (l.flatMap enc) hx (flat_len l hl) ?_ ?_ h63 hbytes hsz' ?_
    · intro j u hj
      rcases hq with rfl | ⟨g, off, hq, _, _, hc⟩
      · simp at hj
      · cases hq
        obtain ⟨i', x', j', h1', h2', rfl⟩ := flat_get l hl j u hj
        have := hc i' x' h1' j' u h2'
        rw [addr_add', ← Nat.add_assoc]
        exact this
    · intro u hu
      obtain ⟨x', hx', hu⟩ := List.mem_flatMap.1 hu
      exact h1 x' hx' u hu
    · intro v' w' h2 h3 h4
      exact h v' w' h2 (hK.grown h3 (fun k hk => .inr (hlt k hk)))

/-- A string's cell. -/
def strE (s : ByteArray) : List Value := [.string s]

theorem infoStr : (Try.prog.info? 9).map (fun i => (i.zero, i.size, i.bytes)) = some (some (.string ByteArray.empty), 1, 16) := by kernel_rfl

theorem growstr_any (n : Nat) (hn : n ≤ 1048576) (w : World) : Calls Try.prog 83 #[.slice none 0 0, .int .i64 n] w fun e w' => ∃ v, e = .returned v ∧ w'.ownsRow w.heap.size 9 1 v 0 [] ∧ Kept Non w w' := by
  have h1 : ¬ ((n : Int) < 0) := by omega
  obtain ⟨i0, hi, hz0, hz1, hz2⟩ := info_parts infoStr
  by_cases h0 : n = 0
  · subst h0
    go_enter Try.func83, Try.ntmps83
    go_wp2
    go_ret
    exact ⟨_, rfl, World.ownsRow_nil _ _ _ _, Kept.refl _ _⟩
  · have hold : (Builtin.firstCells i0.size 0 (.slice none 0 0)).run Try.prog w.drew = .ok (#[] : Array Value) w.drew := run_firstCells_none w.drew i0.size 0 0 0
    have hrz := fun ty => Lib.run_append_grow_zeros (P := Try.prog) w 23 3 ty 9 i0 (.string ByteArray.empty) .i64 .i64 Try.underlying23 Try.underlying3 hi hz0 none 0 0 [] hold n (by omega) (by rw [hz1]; omega) (by omega) (by omega) (by rw [hz2]; omega) (by rw [hz2]; exact growslice_fits (by omega) (by omega))
    have hG := grownCap_le_maxLen w (0 + n) 0 9 (by unfold maxLen; omega)
    have hGn := grownCap_ge w (0 + n) 0 9
    simp only [Nat.zero_add] at hrz hG hGn
    generalize grownCap w n 0 9 = G at hrz hG hGn
    have h4 : (n : Int) > 0 := by omega
    have hw : IntKind.i64.wrap (n : Int) = n := IntWalk.i64_in _ (by omega)
    go_enter Try.func83, Try.ntmps83
    go_wp2_with (at_builtin; refine Lib.wpList_append_run _ rfl _ _ _ _ rfl _ _ rfl rfl _ _ (hrz _) ?_)
    go_ret
    exact ⟨_, rfl, ⟨rfl, .inr ⟨w.heap.size, G, _, rfl, Nat.le_refl _, blk_new w _, Nat.zero_le _, hG, by simp [size_zeroCells]; omega, rfl⟩⟩, ((Kept.refl Non w).alloc _).drew⟩

theorem concat_any {Ga Gb : Nat → Prop} (g : Nat) (va vb : Value) (la lb : List ByteArray) (w : World) (hg : g < w.heap.size) (c0 : w.cell? ⟨g, 0, none⟩ = some va) (c1 : w.cell? ⟨g, 1, none⟩ = some vb)
    (ha : SeqAt strE 1 w va la Ga) (hb : SeqAt strE 1 w vb lb Gb) (sa : Slc va) (sb : Slc vb) (hla : la.length ≤ 1000) (hlb : lb.length ≤ 1000) :
    Calls Try.prog 51 #[.slice (some ⟨g, 0, none⟩) 2 2] w fun e w' => ∃ v, e = .returned v ∧ w'.ownsRow w.heap.size 9 1 v (la ++ lb).length ((la ++ lb).flatMap strE) ∧ Kept Non w w' := by
  have ea : ∃ ao ca, va = .slice ao la.length ca := by obtain ⟨ao, ca, h, _⟩ := ha; exact ⟨ao, ca, h⟩
  have eb : ∃ ao ca, vb = .slice ao lb.length ca := by obtain ⟨ao, ca, h, _⟩ := hb; exact ⟨ao, ca, h⟩
  obtain ⟨aa, ca, rfl⟩ := ea
  obtain ⟨ab, cb, rfl⟩ := eb
  have hla1 : IntKind.i64.wrap (la.length : Int) = la.length := IntWalk.i64_in _ (by omega)
  have hlb1 : IntKind.i64.wrap (lb.length : Int) = lb.length := IntWalk.i64_in _ (by omega)
  have hab : IntKind.i64.wrap ((la.length : Int) + lb.length) = (la.length : Int) + lb.length := IntWalk.i64_in _ (by omega)
  have hn1 : decide ((la.length : Int) < 0) = false := by simp
  have hn2 : decide ((la.length : Int) + lb.length < 0) = false := by simp; omega
  have HG := Lib.hid (fun w => growstr_any (la.length + lb.length) (by omega) w)
  have HA := Lib.hid ha
  have HB := Lib.hid hb
  clear ha hb
  go_enter Try.func51, Try.ntmps51
  go_wp2_with fail
  refine wp_loop_rounds 3 ?_
  rw [rounds_succ]
  go_wp2
  rw [rounds_succ]
  go_wp2
  rw [rounds_succ]
  go_wp2_with (go_at_call 83; refine (HG.out _).mono ?_; rintro e w1 ⟨v0, rfl, ho, hk⟩; have HO := Lib.hid ho; have HK := Lib.hid hk; clear ho hk; have k0 := HK.out.cell c0 (fun h => h); have k1 := HK.out.cell c1 (fun h => h))
  refine wp_loop_rounds 3 ?_
  rw [rounds_succ]
  obtain ⟨i0, hi, hz0, hz1, hz2⟩ := info_parts infoStr
  go_wp2_with (at_builtin; refine wpList_cat w w1 Non Ga HK.out rfl _ _ 23 rfl 9 _ _ 1 16 Try.underlying23 hi hz0 hz1 hz2 rfl (by omega) v0 0 [] HO.out rfl _ la rfl (HA.out.kept0 HK.out) sa (fun _ _ => rfl) (fun x hx u hu => by simp [strE] at hu; subst hu; rfl) (by unfold maxLen; omega) (by omega) ?_; intro v1 w2 ho hk; have HO1 := Lib.hid ho; have HK1 := Lib.hid hk; clear ho hk k0 k1; have k0 := HK1.out.cell c0 (fun h => h); have k1 := HK1.out.cell c1 (fun h => h))
  rw [rounds_succ]
  go_wp2_with (at_builtin; refine wpList_cat w w2 Non Gb HK1.out rfl _ _ 23 rfl 9 _ _ 1 16 Try.underlying23 hi hz0 hz1 hz2 rfl (by omega) v1 _ _ HO1.out rfl _ lb rfl (HB.out.kept0 HK1.out) sb (fun _ _ => rfl) (fun x hx u hu => by simp [strE] at hu; subst hu; rfl) (by unfold maxLen; omega) (by omega) ?_; intro v2 w3 ho hk; have HO2 := Lib.hid ho; have HK2 := Lib.hid hk; clear ho hk k0 k1)
  rw [rounds_succ]
  go_wp2
  go_ret
  refine ⟨v2, rfl, ?_, HK2.out⟩
  have := HO2.out
  rw [List.length_append, List.flatMap_append]
  simpa using this

end Go.Proofs.Ytkmbmbpjppjdjaa
