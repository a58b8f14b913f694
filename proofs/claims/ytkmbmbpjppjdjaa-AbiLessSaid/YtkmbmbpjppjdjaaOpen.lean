/- The arguments of the laws, opened: a slice of texts, a slice of capabilities, a capability. -/
import Derived.Test.YtkmbmbpjppjdjaaAbi6
import Derived.ProofKit
import Derived.OpenShut
import Derived.ShutString
import Derived.ChangeOld
import Derived.Below
import Derived.SizedLaws
import Derived.SliceStrings
import Derived.Deep.Slices
import Derived.Deep.Fields
namespace Go.Proofs.Ytkmbmbpjppjdjaa
open Go.ChangeShapes Go.WideShapes Go.ChangeAt Go.RowKit Go.Deep TmP
set_option linter.unusedVariables false
set_option linter.unusedSimpArgs false
set_option maxRecDepth 100000

theorem own : ownKnob Try.prog.godebug = none := by kernel_rfl
theorem laidOut : laidOutB Try.prog = true := by kernel_rfl

theorem weights_in {H : Type} {ts : List TypeId} {ds : List (DataW H)} (h : (DataW.weightsEach Try.prog ts ds).all (· ≤ reachBytes) = true) {j : Nat} {t : TypeId} {d : DataW H} (ht : ts[j]? = some t) (hd : ds[j]? = some d) : ∀ n ∈ d.weights Try.prog t, n ≤ reachBytes :=
  fun n hn => of_decide_eq_true (List.all_eq_true.1 h n (DataW.weights_mem_each ht hd n hn))

theorem weightsAll_mem {H : Type} {P : Program} {e : TypeId} : ∀ {l : List (DataW H)} {d : DataW H}, d ∈ l → ∀ n ∈ d.weights P e, n ∈ DataW.weightsAll P e l
  | d' :: r, d, hd, n, hn => by
    simp only [DataW.weightsAll, List.mem_append]
    rcases List.mem_cons.1 hd with rfl | h
    · exact Or.inl hn
    · exact Or.inr (weightsAll_mem h n hn)

theorem add_mk (b o k : Nat) : (Addr.mk b o none).add k = ⟨b, o + k, none⟩ := addr_add' b o k

theorem list_of {α : Type} {n : Nat} {R : Nat → α → Prop} (h : ∀ i, i < n → ∃ x, R i x) : ∃ l : List α, l.length = n ∧ ∀ i, (hi : i < l.length) → R i l[i] := by
  induction n with
  | zero => exact ⟨[], rfl, fun i hi => by simp at hi⟩
  | succ n ih =>
    obtain ⟨l, hl, hr⟩ := ih (fun i hi => h i (by omega))
    obtain ⟨x, hx⟩ := h n (by omega)
    refine ⟨l ++ [x], by simp [hl], fun i hi => ?_⟩
    simp at hi
    by_cases hin : i < l.length
    · rw [List.getElem_append_left hin]; exact hr i hin
    · have e : i = l.length := by omega
      subst e
      rw [List.getElem_append_right (by omega)]
      simpa [hl] using hx

section
variable {H : Type} {enc : TypeId × Value → H} {W : World} {base : Nat}

theorem opened_strs {v : Value} {d : DataW H} {p : List MemPlace} (hok : Value.okWide Try.prog W .any base 23 v) (h : DataW.Trod enc Try.prog W 0 (fun _ => true) true 23 v d p) (hw : ∀ n ∈ d.weights Try.prog 23, n ≤ reachBytes) :
    ∃ l : List ByteArray, SeqAt strE 1 W v l (fun k => k < W.heap.size) ∧ Slc v ∧ (∀ x ∈ l, x.size ≤ 140737488355328) ∧ l.length ≤ 140737488355328 := by
  obtain ⟨a0, len, cap, rfl⟩ := okWide_slice Try.underlying23 hok
  obtain ⟨fuel, hf⟩ := h
  rcases open_strings Try.underlying23 Try.underlying9 (by kernel_rfl) hf with ⟨hcs, hx⟩ | ⟨a, len', cap', ss, hcs, _, hl, hm, hz, hx, hcell, hws⟩
  · simp [Value.cells] at hcs
    obtain ⟨rfl, rfl, rfl⟩ := hcs
    exact ⟨[], SeqAt.nil _ _ _ _, .inl rfl, by simp, by simp⟩
  · simp [Value.cells] at hcs
    obtain ⟨rfl, rfl, rfl⟩ := hcs
    simp only [Prod.mk.injEq] at hx
    obtain ⟨rfl, rfl⟩ := hx
    simp only [if_true] at hz
    have hlen : (ss.take len).length = len := by rw [List.length_take]; omega
    have hrb : reachBytes = 140737488351232 := rfl
    have hb16 : Try.prog.bytesOf 9 = 16 := by kernel_rfl
    refine ⟨ss.take len, ⟨some a, cap, by rw [hlen], by omega, ?_⟩, .inr ⟨_, _, _, rfl⟩, fun x hx => ?_, ?_⟩
    · by_cases h0 : len = 0
      · left; subst h0; simp
      · right
        obtain ⟨b, o, spot⟩ := a
        have hspot : spot = none := by simpa [Addr.add] using World.cell?_spot (hcell 0 (by omega))
        subst hspot
        refine ⟨b, o, rfl, ?_, ?_, fun i x hi j u hu => ?_⟩
        · exact World.block_lt_of_cell? W _ (hcell 0 (by omega))
        · exact World.block_lt_of_cell? W _ (hcell 0 (by omega))
        · cases j with
          | succ j => simp [strE] at hu
          | zero =>
            simp only [strE, List.getElem?_cons_zero, Option.some.injEq] at hu
            subst hu
            have hi' : i < len := by rw [← hlen]; exact (List.getElem?_eq_some_iff.1 hi).1
            have := hcell i (by omega)
            rw [add_mk] at this
            rw [Nat.mul_one, Nat.add_zero, this]
            rw [List.getElem?_take, if_pos hi'] at hi
            simp [List.getD, hi]
    · have hm' : (DataW.lit (.string x.data.toList) : DataW H) ∈ strs (ss.take len) := List.mem_map.2 ⟨x, hx, rfl⟩
      have := hw x.data.toList.length (by
        simp only [DataW.weights, Try.underlying23, List.mem_cons, List.mem_append]
        exact .inr (.inl (weightsAll_mem hm' _ (by simp [DataW.weights]))))
      rw [hrb] at this
      simp at this
      omega
    · have := hw _ (by
        simp only [DataW.weights, Try.underlying23]
        exact List.mem_cons_self)
      rw [hb16, hrb] at this
      simp only [strs, List.length_map, List.length_take, List.length_drop] at this ⊢
      omega

theorem trod_cap {n : Nat} {cs : List Value} {x : DataW H × List MemPlace} {sp : Nat → Bool} {held : Bool} (h : DataW.trod enc Try.prog W 0 sp held n 30 cs = some x) : ∃ c : Cap, cs = capE c ∧ Cap.U c ∧ (-9223372036854775808 ≤ c.perms ∧ c.perms ≤ 9223372036854775807) ∧ (-9223372036854775808 ≤ c.typ ∧ c.typ ≤ 9223372036854775807) := by
  obtain ⟨ys, n', rfl, _, hlen, _, hf⟩ := DataW.trod_struct Try.underlying30 h
  have hC : Try.prog.cellsOf 30 = 6 := by kernel_rfl
  have c1 : Try.prog.cellsOf 22 = 1 := by kernel_rfl
  have c2 : Try.prog.cellsOf 3 = 1 := by kernel_rfl
  have c3 : Try.prog.cellsOf 4 = 1 := by kernel_rfl
  rw [hC] at hlen
  match cs, hlen with
  | [v0, v1, v2, v3, v4, v5], _ =>
    have hs : ∀ i, i < 6 → ∃ y, ys[i]? = some y := fun i hi => by
      have hys : ys.length = 6 := by assumption
      exact ⟨_, List.getElem?_eq_getElem (by omega)⟩
    obtain ⟨y0, h0⟩ := hs 0 (by omega)
    obtain ⟨y1, h1⟩ := hs 1 (by omega)
    obtain ⟨y2, h2⟩ := hs 2 (by omega)
    obtain ⟨y3, h3⟩ := hs 3 (by omega)
    obtain ⟨y4, h4⟩ := hs 4 (by omega)
    obtain ⟨y5, h5⟩ := hs 5 (by omega)
    have f0 := hf 0 _ rfl
    have f1 := hf 1 _ rfl
    have f2 := hf 2 _ rfl
    have f3 := hf 3 _ rfl
    have f4 := hf 4 _ rfl
    have f5 := hf 5 _ rfl
    simp only [c1, c2, c3, h0, h1, h2, h3, h4, h5, List.drop_zero, List.drop_succ_cons, List.take_succ_cons, List.take_zero] at f0 f1 f2 f3 f4 f5
    obtain ⟨n0, e0, _, w0⟩ := DataW.trod_int Try.underlying22 f0
    obtain ⟨n1, e1, _, w1⟩ := DataW.trod_int Try.underlying22 f1
    obtain ⟨n2, e2, _, w2⟩ := DataW.trod_int Try.underlying22 f2
    obtain ⟨n3, e3, _, w3⟩ := DataW.trod_int Try.underlying3 f3
    obtain ⟨n4, e4, _, w4⟩ := DataW.trod_int Try.underlying3 f4
    obtain ⟨n5, e5, _⟩ := DataW.trod_bool Try.underlying4 f5
    cases e0; cases e1; cases e2; cases e3; cases e4; cases e5
    simp [Lit.wf, IntKind.min, IntKind.max, IntKind.signed, IntKind.bits] at w0 w1 w2 w3 w4
    have u0 : U64 n0 := ⟨by omega, by omega⟩
    have u1 : U64 n1 := ⟨by omega, by omega⟩
    have u2 : U64 n2 := ⟨by omega, by omega⟩
    exact ⟨⟨n0, n1, n2, n3, n4, n5⟩, rfl, ⟨u0, u1, u2⟩, w3, w4⟩

theorem opened_caps {v : Value} {d : DataW H} {p : List MemPlace} (hok : Value.okWide Try.prog W .any base 40 v) (h : DataW.Trod enc Try.prog W 0 (fun _ => true) true 40 v d p) (hw : ∀ n ∈ d.weights Try.prog 40, n ≤ reachBytes) :
    ∃ l : List Cap, SeqAt capE 6 W v l (fun k => k < W.heap.size) ∧ Slc v ∧ (∀ c ∈ l, Cap.U c) ∧ l.length ≤ 140737488355328 := by
  obtain ⟨a0, len, cap, rfl⟩ := okWide_slice Try.underlying40 hok
  obtain ⟨fuel, hf⟩ := h
  have hC : Try.prog.cellsOf 30 = 6 := by kernel_rfl
  have hrb : reachBytes = 140737488351232 := rfl
  have hb48 : Try.prog.bytesOf 30 = 48 := by kernel_rfl
  rcases open_slice Try.underlying40 hf with ⟨hcs, hx⟩ | ⟨a, len', cap', m, n, D, Pl, hcs, _, hl, hm, hmm, hx, hi⟩
  · simp [Value.cells] at hcs
    obtain ⟨rfl, rfl, rfl⟩ := hcs
    exact ⟨[], SeqAt.nil _ _ _ _, .inl rfl, by simp, by simp⟩
  · simp [Value.cells] at hcs
    obtain ⟨rfl, rfl, rfl⟩ := hcs
    rw [if_pos rfl] at hmm
    subst hmm
    have hx1 : d = _ := congrArg Prod.fst hx
    subst hx1
    obtain ⟨l, hll, hr⟩ := list_of (n := len) (R := fun i (c : Cap) => Cap.U c ∧ ∀ (j : Nat) (u : Value), (capE c)[j]? = some u → W.cell? ((a.add (i * 6)).add j) = some u) (fun i hin => by
      obtain ⟨cs', hc, ht⟩ := hi i (by omega)
      rw [hC] at hc
      obtain ⟨c, rfl, hU, _⟩ := trod_cap ht
      obtain ⟨_, _, hat⟩ := World.cells?_some hc
      refine ⟨c, hU, fun j u hu => ?_⟩
      have hj : j < 6 := (List.getElem?_eq_some_iff.1 hu).1
      rw [hat j hj, hu])
    refine ⟨l, ⟨some a, m, by rw [hll], by omega, ?_⟩, .inr ⟨_, _, _, rfl⟩, fun c hc => ?_, ?_⟩
    · by_cases h0 : len = 0
      · left; exact List.eq_nil_of_length_eq_zero (by omega)
      · right
        have hc0 := (hr 0 (by omega)).2 0 _ rfl
        obtain ⟨b, o, spot⟩ := a
        have hspot : spot = none := by simpa [Addr.add] using World.cell?_spot hc0
        subst hspot
        simp only [add_mk] at hc0
        refine ⟨b, o, rfl, World.block_lt_of_cell? W _ hc0, World.block_lt_of_cell? W _ hc0, fun i x hix j u hu => ?_⟩
        obtain ⟨hil, rfl⟩ := List.getElem?_eq_some_iff.1 hix
        have := (hr i hil).2 j u hu
        simpa only [add_mk] using this
    · obtain ⟨i, hil, rfl⟩ := List.getElem_of_mem hc
      exact (hr i hil).1
    · have := hw _ (by
        simp only [DataW.weights, Try.underlying40]
        exact List.mem_cons_self)
      rw [hb48, hrb] at this
      simp only [List.length_map, List.length_range] at this
      omega
end

end Go.Proofs.Ytkmbmbpjppjdjaa
