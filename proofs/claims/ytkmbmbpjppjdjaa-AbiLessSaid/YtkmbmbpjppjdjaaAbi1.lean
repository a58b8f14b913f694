/- Walks: what a program begins with: how much it needs; which texts and capabilities may be. -/
import Derived.Test.YtkmbmbpjppjdjaaSeq2
import Derived.Test.YtkmbmbpjppjdjaaCap
namespace Go.Proofs.Ytkmbmbpjppjdjaa
open Go.RowKit Go.Maps TmP
set_option linter.unusedSimpArgs false
set_option linter.unusedVariables false
set_option maxRecDepth 100000

namespace TmP
def upZ (n : Int) : Int := (n + 31) / 32 * 32
/-- The bytes of texts, each with its end. -/
def sizeL (l : List ByteArray) : Int := (l.map fun s => (s.size : Int) + 1).foldr (· + ·) 0
def needN (args env : List ByteArray) (aux : Nat) : Int := upZ (sizeL (args ++ env)) + 32 * ((args.length : Int) + env.length + aux + 3)
theorem sizeL_nil : sizeL [] = 0 := rfl
theorem sizeL_cons (s : ByteArray) (l : List ByteArray) : sizeL (s :: l) = s.size + 1 + sizeL l := rfl
theorem sizeL_append (a b : List ByteArray) : sizeL (a ++ b) = sizeL a + sizeL b := by
  induction a with
  | nil => simp [sizeL_nil]
  | cons s r ih => rw [List.cons_append, sizeL_cons, sizeL_cons, ih]; omega
theorem sizeL_nonneg (a : List ByteArray) : 0 ≤ sizeL a := by
  induction a with
  | nil => simp [sizeL_nil]
  | cons s r ih => rw [sizeL_cons]; omega
theorem sizeL_take (a : List ByteArray) (k : Nat) : sizeL (a.take k) ≤ sizeL a := by
  have := sizeL_append (a.take k) (a.drop k)
  rw [List.take_append_drop] at this
  have := sizeL_nonneg (a.drop k)
  omega
theorem sizeL_succ (a : List ByteArray) (k : Nat) (h : k < a.length) : sizeL (a.take (k + 1)) = sizeL (a.take k) + a[k].size + 1 := by
  rw [List.take_succ_eq_append_getElem h, sizeL_append, sizeL_cons, sizeL_nil]; omega
end TmP

theorem up_any (n : Int) (h0 : 0 ≤ n) (h1 : n ≤ 4611686018427387904) (w : World) : Calls Try.prog 46 #[.int .i64 n] w fun e w' => e = .returned (.int .i64 (upZ n)) ∧ w = w' := by
  have e1 : IntKind.i64.wrap (n + 32) = n + 32 := IntWalk.i64_in _ (by omega)
  have e2 : IntKind.i64.wrap (n + 32 - 1) = n + 31 := by rw [IntWalk.i64_in _ (by omega)]; omega
  have e3 : IntKind.i64.wrap ((n + 31).tdiv 32) = (n + 31) / 32 := IntWalk.i64_quo (n + 31) 32 (by omega)
  have e4 : IntKind.i64.wrap ((n + 31) / 32 * 32) = (n + 31) / 32 * 32 := IntWalk.i64_in _ (by omega)
  unfold upZ
  go_enter Try.func46, Try.ntmps46
  go_wp2
  go_ret
  exact ⟨rfl, rfl⟩

theorem need_any {Ga Gb : Nat → Prop} (va vb vc : Value) (la lb : List ByteArray) (n : Nat) (w : World)
    (ha : SeqAt strE 1 w va la Ga) (hb : SeqAt strE 1 w vb lb Gb) (sa : Slc va) (sb : Slc vb) (hla : la.length ≤ 1000) (hlb : lb.length ≤ 1000) (hn : n ≤ 1000) (hsz : sizeL (la ++ lb) ≤ 2305843009213693952)
    (hc : ∃ ao c, vc = .slice ao n c) :
    Calls Try.prog 20 #[va, vb, vc] w fun e w' => e = .returned (.int .i64 (needN la lb n)) ∧ Kept Non w w' := by
  have ea : ∃ ao ca, va = .slice ao la.length ca := by obtain ⟨ao, ca, h, _⟩ := ha; exact ⟨ao, ca, h⟩
  have eb : ∃ ao ca, vb = .slice ao lb.length ca := by obtain ⟨ao, ca, h, _⟩ := hb; exact ⟨ao, ca, h⟩
  obtain ⟨aa, ca, rfl⟩ := ea
  obtain ⟨ab, cb, rfl⟩ := eb
  obtain ⟨ac, cc, rfl⟩ := hc
  have HA := Lib.hid ha
  have HB := Lib.hid hb
  clear ha hb
  have hL : la.length + lb.length = (la ++ lb).length := by simp
  have hcat := fun b (w' : World) (hb : b < w'.heap.size) (c0 : w'.cell? ⟨b, 0, none⟩ = some (.slice aa la.length ca)) (c1 : w'.cell? ⟨b, 1, none⟩ = some (.slice ab lb.length cb)) (hk : Kept Non w w') => concat_any b _ _ la lb w' hb c0 c1 (HA.out.kept0 hk) (HB.out.kept0 hk) sa sb hla hlb
  have hneed : needN la lb n = upZ (sizeL (la ++ lb)) + 32 * (((la.length : Int) + lb.length) + n + 3) := rfl
  rw [hneed]
  have hN : (la ++ lb).length ≤ 2000 := by omega
  generalize la ++ lb = L at hL hcat hsz hN ⊢
  have h0 := sizeL_nonneg L
  have hup := up_any (sizeL L) h0 (by omega)
  have hu : 0 ≤ upZ (sizeL L) ∧ upZ (sizeL L) ≤ sizeL L + 31 := by unfold upZ; omega
  generalize upZ (sizeL L) = U at hup hu ⊢
  have HC := Lib.hid hcat
  have HUP := Lib.hid hup
  clear hcat hneed hup
  go_enter Try.func20, Try.ntmps20
  go_wp2_with (go_at_call 51; refine (HC.out w.heap.size _ (by simp) (by simp [go_sem]) (by simp [go_sem]) ((Kept.refl Non w).alloc _)).mono ?_; rintro e w1 ⟨v, rfl, ho, hk⟩; have HS := Lib.hid (seq_of_own (l := L) (enc := strE) ho rfl (fun _ _ => rfl)); have HK := Lib.hid (((Kept.refl Non w).alloc _).trans hk); clear ho hk; obtain ⟨ao, cap, rfl, hcap, hcs⟩ := HS.out; have HCS := Lib.hid hcs; clear hcs HS)
  go_loop [7, 15] (fun s i => ∃ k : Nat, k ≤ L.length ∧ i = .int .i64 k ∧ s = .int .i64 (sizeL (L.take k))) (fun _ i => L.length - (intOf i).toNat)
  case atStart => exact ⟨0, Nat.zero_le _, rfl, rfl⟩
  case round =>
    obtain ⟨k, hk, rfl, rfl⟩ := hrel
    have ht := sizeL_take L k
    have ht0 := sizeL_nonneg (L.take k)
    by_cases hlt : k < L.length
    · have hs := sizeL_succ L k hlt
      have hs1 := sizeL_take L (k + 1)
      obtain ⟨g, off, rfl, _, hcell⟩ : ∃ g off, ao = some ⟨g, off, none⟩ ∧ True ∧ w1.cell? ⟨g, off + k, none⟩ = some (.string L[k]) := by
        rcases HCS.out with h | ⟨g, off, h1, _, _, h4⟩
        · subst h; simp at hlt
        · exact ⟨g, off, h1, trivial, by simpa using h4 k L[k] (List.getElem?_eq_getElem hlt) 0 _ rfl⟩
      have e1 : IntKind.i64.wrap ((L[k].size : Int) + 1) = (L[k].size : Int) + 1 := IntWalk.i64_in _ (by omega)
      have e2 : IntKind.i64.wrap (sizeL (L.take k) + ((L[k].size : Int) + 1)) = sizeL (L.take (k + 1)) := by rw [hs, IntWalk.i64_in _ (by omega)]; omega
      have HE := Lib.hid hs
      clear hs hs1
      go_wp2
      go_round
      case rel => exact ⟨k + 1, by omega, by go_num, rfl⟩
      case measure => simp [intOf]; omega
    · obtain rfl : k = L.length := by omega
      rw [List.take_length] at *
      have e1 : IntKind.i64.wrap ((la.length : Int) + lb.length) = (la.length : Int) + lb.length := IntWalk.i64_in _ (by omega)
      have e2 : IntKind.i64.wrap ((la.length : Int) + lb.length + n) = (la.length : Int) + lb.length + n := IntWalk.i64_in _ (by omega)
      have e3 : IntKind.i64.wrap ((la.length : Int) + lb.length + n + 3) = (la.length : Int) + lb.length + n + 3 := IntWalk.i64_in _ (by omega)
      have e4 : IntKind.i64.wrap (32 * ((la.length : Int) + lb.length + n + 3)) = 32 * ((la.length : Int) + lb.length + n + 3) := IntWalk.i64_in _ (by omega)
      have e5 : IntKind.i64.wrap (U + 32 * ((la.length : Int) + lb.length + n + 3)) = U + 32 * ((la.length : Int) + lb.length + n + 3) := IntWalk.i64_in _ (by omega)
      go_wp2_with (go_at_call 46; refine (HUP.out _).mono ?_; rintro e w' ⟨rfl, rfl⟩)
      go_ret
      exact ⟨rfl, HK.out⟩

end Go.Proofs.Ytkmbmbpjppjdjaa
