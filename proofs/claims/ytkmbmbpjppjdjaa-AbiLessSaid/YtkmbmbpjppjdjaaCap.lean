/- Walks: capabilities (package cap). -/
import Derived.Test.YtkmbmbpjppjdjaaTmW6
import Derived.Laws.StructEq
import Derived.Deep.QuietTactic
import Derived.BigQuiet
import Derived.Deep.DeepCutAuto
import Derived.Deep.RegionWith
import Derived.Deep.RegionHeld3
namespace Go.Proofs.Ytkmbmbpjppjdjaa
open Go.RowKit Go.Maps TmP
set_option linter.unusedSimpArgs false
set_option linter.unusedVariables false
set_option maxRecDepth 100000

/-- A capability's variable: its cells. -/
theorem box6 {w : World} {b : Nat} {v0 v1 v2 v3 v4 v5 : Value} (h : w.heap[b]? = some (.cells #[v0, v1, v2, v3, v4, v5] 30 (0, 0))) :
    (w.cell? ⟨b, 0, none⟩ = some v0 ∧ w.cell? ⟨b, 1, none⟩ = some v1 ∧ w.cell? ⟨b, 2, none⟩ = some v2 ∧ w.cell? ⟨b, 3, none⟩ = some v3 ∧ w.cell? ⟨b, 4, none⟩ = some v4 ∧ w.cell? ⟨b, 5, none⟩ = some v5) ∧
    (w.frozen? ⟨b, 0, none⟩ = false ∧ w.frozen? ⟨b, 1, none⟩ = false ∧ w.frozen? ⟨b, 2, none⟩ = false ∧ w.frozen? ⟨b, 3, none⟩ = false ∧ w.frozen? ⟨b, 4, none⟩ = false ∧ w.frozen? ⟨b, 5, none⟩ = false) :=
  ⟨⟨(cell_blk h 0).trans rfl, (cell_blk h 1).trans rfl, (cell_blk h 2).trans rfl, (cell_blk h 3).trans rfl, (cell_blk h 4).trans rfl, (cell_blk h 5).trans rfl⟩, ⟨free_blk h 0, free_blk h 1, free_blk h 2, free_blk h 3, free_blk h 4, free_blk h 5⟩⟩

theorem blk_new2 (w : World) (o o' : Obj) : ((w.alloc o).alloc o').heap[w.heap.size + 1]? = some o' := by
  have := blk_new (w.alloc o) o'
  rwa [World.size_alloc] at this

namespace TmP
def Cap.int (x : Int) : Cap := ⟨0, 0, x, 0, -1, false⟩
def Cap.root (n : Int) : Cap := ⟨0, n, 0, 255, -1, true⟩
def Cap.clear (c : Cap) : Cap := { c with tag := false }
def Cap.openC (c : Cap) : Cap := { c with tag := c.tag && !decide (0 ≤ c.typ) }
def Cap.move (c : Cap) (x : Int) : Cap := ({ c with at_ := x } : Cap).openC
def Cap.fits (c : Cap) (n : Int) : Bool := decide (c.base ≤ c.at_ ∧ c.at_ + n < 18446744073709551616 ∧ c.at_ + n ≤ c.top)
end TmP

theorem capint_any (x : Int) (w : World) : Calls Try.prog 96 #[.int .u64 x] w fun e w' => e = .returned (capV (Cap.int x)) ∧ Kept Non w w' := by
  go_enter Try.func96, Try.ntmps96
  go_wp2
  exact bodyPost_ret (v := capV (Cap.int x)) (by simp [results, Try.results96, go_sem, capV, Cap.int]) rfl ⟨rfl, (Kept.refl Non w).alloc _⟩

theorem capnull_any (w : World) : Calls Try.prog 79 #[] w fun e w' => e = .returned (capV (Cap.int 0)) ∧ Kept Non w w' := by
  go_enter Try.func79, Try.ntmps79
  go_wp2_with (go_at_call 96; refine (capint_any _ _).mono ?_; rintro e w1 ⟨rfl, hk⟩; obtain ⟨⟨c0, c1, c2, c3, c4, c5⟩, ⟨f0, f1, f2, f3, f4, f5⟩⟩ := box6 (hk.blk (blk_new w _) (fun h => h)); have HK := Lib.hid (((Kept.refl Non w).alloc _).trans hk); clear hk; unfold capV)
  refine bodyPost_ret (v := capV (Cap.int 0)) (by simp [results, Try.results79, go_sem, capV, Cap.int, c0, c1, c2, c3, c4, c5]) rfl ⟨rfl, ?_⟩
  repeat (refine Kept.setCell ?_ (.inr (by simp)) _)
  exact HK.out

theorem caproot_any (x : Int) (w : World) : Calls Try.prog 52 #[.int .u64 x] w fun e w' => e = .returned (capV (Cap.root x)) ∧ Kept Non w w' := by
  go_enter Try.func52, Try.ntmps52
  go_wp2
  exact bodyPost_ret (v := capV (Cap.root x)) (by simp [results, Try.results52, go_sem, capV, Cap.root]) rfl ⟨rfl, (Kept.refl Non w).alloc _⟩

theorem capclear_any (c : Cap) (w : World) : Calls Try.prog 99 #[capV c] w fun e w' => e = .returned (capV c.clear) ∧ Kept Non w w' := by
  unfold capV
  go_enter Try.func99, Try.ntmps99
  go_wp2
  exact bodyPost_ret (v := capV c.clear) (by simp [results, Try.results99, go_sem, capV, Cap.clear]) rfl ⟨rfl, ((Kept.refl Non w).alloc _).alloc _⟩

theorem capsealed_any (c : Cap) (w : World) : Calls Try.prog 97 #[capV c] w fun e w' => e = .returned (.bool (decide (0 ≤ c.typ))) ∧ Kept Non w w' := by
  unfold capV
  go_enter Try.func97, Try.ntmps97
  go_wp2
  go_ret
  exact ⟨rfl, (Kept.refl Non w).alloc _⟩

theorem capopen_any (c : Cap) (w : World) : Calls Try.prog 80 #[capV c] w fun e w' => e = .returned (capV c.openC) ∧ Kept Non w w' := by
  obtain ⟨b, t, a, p, y, g⟩ := c
  have hsd := fun w' => capsealed_any ⟨b, t, a, p, y, true⟩ w'
  simp only [capV, Cap.openC] at hsd ⊢
  cases g
  · go_enter Try.func80, Try.ntmps80
    go_wp2
    exact bodyPost_ret (v := capV ⟨b, t, a, p, y, false⟩) (by simp [results, Try.results80, go_sem, capV]) rfl ⟨rfl, (Kept.refl Non w).alloc _ |>.alloc _⟩
  · go_enter Try.func80, Try.ntmps80
    go_wp2_with (go_at_call 97; refine (hsd _).mono ?_; rintro e w1 ⟨rfl, hk⟩; obtain ⟨⟨c0, c1, c2, c3, c4, c5⟩, ⟨f0, f1, f2, f3, f4, f5⟩⟩ := box6 (hk.blk (blk_alloc (blk_new w _) _) (fun h => h)); obtain ⟨⟨d0, d1, d2, d3, d4, d5⟩, ⟨g0, g1, g2, g3, g4, g5⟩⟩ := box6 (hk.blk (blk_new2 w _ _) (fun h => h)); have HK := Lib.hid (((Kept.refl Non w).alloc _ |>.alloc _).trans hk); clear hk)
    refine bodyPost_ret (v := capV ⟨b, t, a, p, y, !decide (0 ≤ y)⟩) (by simp [results, Try.results80, go_sem, capV, c0, c1, c2, c3, c4, c5, d0, d1, d2, d3, d4, d5]) rfl ⟨rfl, ?_⟩
    repeat (refine Kept.setCell ?_ (.inr (by simp)) _)
    exact HK.out

theorem capmove_any (c : Cap) (x : Int) (w : World) : Calls Try.prog 48 #[capV c, .int .u64 x] w fun e w' => e = .returned (capV (c.move x)) ∧ Kept Non w w' := by
  obtain ⟨b, t, a, p, y, g⟩ := c
  have hop := fun w' => capopen_any ⟨b, t, x, p, y, g⟩ w'
  simp only [capV, Cap.move, Cap.openC] at hop ⊢
  go_enter Try.func48, Try.ntmps48
  go_wp2_with (go_at_call 80; refine (hop _).mono ?_; rintro e w1 ⟨rfl, hk⟩; obtain ⟨⟨d0, d1, d2, d3, d4, d5⟩, ⟨g0, g1, g2, g3, g4, g5⟩⟩ := box6 (hk.blk (blk_new2 w _ _) (fun h => h)); have HK := Lib.hid (((Kept.refl Non w).alloc _ |>.alloc _).trans hk); clear hk)
  refine bodyPost_ret (v := capV ⟨b, t, x, p, y, g && !decide (0 ≤ y)⟩) (by simp [results, Try.results48, go_sem, capV, d0, d1, d2, d3, d4, d5]) rfl ⟨rfl, ?_⟩
  repeat (refine Kept.setCell ?_ (.inr (by simp)) _)
  exact HK.out

theorem capand_any (c : Cap) (x : Int) (w : World) : Calls Try.prog 81 #[capV c, .int .i64 x] w fun e w' => e = .returned (capV ({ c with perms := bits .and .i64 c.perms x } : Cap).openC) ∧ Kept Non w w' := by
  obtain ⟨b, t, a, p, y, g⟩ := c
  have hop := fun z w' => capopen_any ⟨b, t, a, z, y, g⟩ w'
  simp only [capV, Cap.openC] at hop ⊢
  go_enter Try.func81, Try.ntmps81
  go_wp2_with (go_at_call 80; refine (hop _ _).mono ?_; rintro e w1 ⟨rfl, hk⟩; obtain ⟨⟨d0, d1, d2, d3, d4, d5⟩, ⟨g0, g1, g2, g3, g4, g5⟩⟩ := box6 (hk.blk (blk_new2 w _ _) (fun h => h)); have HK := Lib.hid (((Kept.refl Non w).alloc _ |>.alloc _).trans hk); clear hk)
  refine bodyPost_ret (v := capV ⟨b, t, a, bits .and .i64 p x, y, g && !decide (0 ≤ y)⟩) (by simp [results, Try.results81, go_sem, capV, d0, d1, d2, d3, d4, d5]) rfl ⟨rfl, ?_⟩
  repeat (refine Kept.setCell ?_ (.inr (by simp)) _)
  exact HK.out

theorem capfits_any (c : Cap) (n : Int) (hu : Cap.U c) (hn : U64 n) (w : World) : Calls Try.prog 98 #[capV c, .int .u64 n] w fun e w' => e = .returned (.bool (c.fits n)) ∧ Kept Non w w' := by
  obtain ⟨b, t, a, p, y, g⟩ := c
  obtain ⟨h0, h1, h2⟩ := hu
  simp only [U64] at h0 h1 h2 hn
  have hF1 : a < b → Cap.fits ⟨b, t, a, p, y, g⟩ n = false := fun h => by simp [Cap.fits]; omega
  have hF2 : IntKind.u64.wrap (a + n) < a → Cap.fits ⟨b, t, a, p, y, g⟩ n = false := fun h => by rw [IntKind.wrap_u64] at h; simp [Cap.fits]; omega
  have hF3 : b ≤ a → a ≤ IntKind.u64.wrap (a + n) → Cap.fits ⟨b, t, a, p, y, g⟩ n = decide (IntKind.u64.wrap (a + n) ≤ t) := fun h h' => by simp only [IntKind.wrap_u64] at *; simp only [Cap.fits]; rw [decide_eq_decide]; omega
  generalize Cap.fits ⟨b, t, a, p, y, g⟩ n = F at *
  simp only [capV]
  go_enter Try.func98, Try.ntmps98
  go_wp2
  all_goals go_ret
  all_goals rename_i h
  · rename_i h'
    exact ⟨ret_bool (hF3 h' h).symm, (Kept.refl Non w).alloc _⟩
  · exact ⟨rfl, (Kept.refl Non w).alloc _⟩
  · exact ⟨rfl, (Kept.refl Non w).alloc _⟩

/-- '!=' of two capabilities. -/
theorem neqCap (a b : Cap) (w : World) : (binOp .neq 30 (capV a) (capV b)).run Try.prog w = .ok (.bool (!decide (a = b))) w := by
  obtain ⟨b1, t1, a1, p1, y1, g1⟩ := a
  obtain ⟨b2, t2, a2, p2, y2, g2⟩ := b
  have hS : Try.prog.underlying 30 = some (.struct (Try.prog.fieldsOf 30)) := by kernel_rfl
  have hp : Try.prog.stoodInHeld 30 = false := by kernel_rfl
  simp only [capV]
  rw [run_neq_struct, show (10000 : Nat) = 9999 + 1 from rfl, run_equalIn_agg w 9999 30 _ _ hS hp]
  simp only [Program.fieldsOf, Try.underlying30]
  have u1 := Try.underlying22
  have u2 := Try.underlying3
  have u3 := Try.underlying4
  have q1 := Try.isAgg22
  have q2 := Try.isAgg3
  have q3 := Try.isAgg4
  go_simp
  by_cases h1 : b1 = b2 <;> by_cases h2 : t1 = t2 <;> by_cases h3 : a1 = a2 <;> by_cases h4 : p1 = p2 <;> by_cases h5 : y1 = y2 <;> by_cases h6 : g1 = g2 <;> simp [h1, h2, h3, h4, h5, h6]

namespace TmP
def Cap.boundB (c : Cap) (n : Int) : Bool := decide (c.openC = c) && c.tag && c.fits n
def Cap.bound (c : Cap) (n : Int) : Cap := if c.boundB n then { c with base := c.at_, top := c.at_ + n } else c.clear
end TmP

structure BdAt (w : World) (c : Cap) (wx : World) : Prop where
  kept : Kept Non w wx
  box : wx.heap[w.heap.size]? = some (.cells (capC c) 30 (0, 0))
  res : wx.heap[w.heap.size + 1]? = some (.cells #[.int .u64 0, .int .u64 0, .int .u64 0, .int .i64 0, .int .i64 0, .bool false] 30 (0, 0))

set_option maxHeartbeats 1600000 in
theorem capbound_any (c : Cap) (n : Int) (hu : Cap.U c) (hn : U64 n) (w : World) : Calls Try.prog 82 #[capV c, .int .u64 n] w fun e w' => e = .returned (capV (c.bound n)) ∧ Kept Non w w' := by
  have hop := fun w' => capopen_any c w'
  have hfi := fun w' => capfits_any c n hu hn w'
  have hcl := fun w' => capclear_any c w'
  have hne := fun w' => neqCap c.openC c w'
  have hm : Try.prog.eqGuardType Try.prog.depth 30 = false := by kernel_rfl
  cases hB : c.boundB n
  · have HV := Lib.hid (show c.bound n = c.clear by simp [Cap.bound, hB])
    obtain ⟨b, t, a, p, y, g⟩ := c
    have hB' : (decide (Cap.openC ⟨b, t, a, p, y, g⟩ = ⟨b, t, a, p, y, g⟩) && g && Cap.fits ⟨b, t, a, p, y, g⟩ n) = false := hB
    simp only [Cap.clear] at HV
    cases hN : decide (Cap.openC ⟨b, t, a, p, y, g⟩ = ⟨b, t, a, p, y, g⟩)
    · generalize Cap.bound ⟨b, t, a, p, y, g⟩ n = R at *
      simp only [hN, Bool.not_false] at hne
      simp only [Cap.openC, Cap.clear, capV] at hop hne hcl ⊢
      have HC := Lib.hid hcl
      clear hN hB hB' hfi hcl hu hn
      go_enter Try.func82, Try.ntmps82
      go_upto_region 1 with (fail)
      generalize hW : ((w.alloc (.cells #[.int .u64 b, .int .u64 t, .int .u64 a, .int .i64 p, .int .i64 y, .bool g] 30)).alloc (.cells #[.int .u64 0, .int .u64 0, .int .u64 0, .int .i64 0, .int .i64 0, .bool false] 30)) = W1
      have hA : BdAt w ⟨b, t, a, p, y, g⟩ W1 := by
        subst hW
        exact ⟨((Kept.refl Non w).alloc _).alloc _, blk_alloc (blk_new w _) _, blk_new2 w _ _⟩
      clear hW
      have HS := Lib.hid (show ∀ w', Kept Non W1 w' → w'.cell? ⟨w.heap.size, 0, none⟩ = some (.int .u64 b) ∧ w'.cell? ⟨w.heap.size, 1, none⟩ = some (.int .u64 t) ∧ w'.cell? ⟨w.heap.size, 2, none⟩ = some (.int .u64 a) ∧ w'.cell? ⟨w.heap.size, 3, none⟩ = some (.int .i64 p) ∧ w'.cell? ⟨w.heap.size, 4, none⟩ = some (.int .i64 y) ∧ w'.cell? ⟨w.heap.size, 5, none⟩ = some (.bool g) from fun w' hk => (box6 (hk.blk hA.box (fun h => h))).1)
      have HA := Lib.hid hA
      obtain ⟨⟨c0, c1, c2, c3, c4, c5⟩, ⟨f0, f1, f2, f3, f4, f5⟩⟩ := box6 hA.box
      have HK := Lib.hid (Kept.refl Non W1).drew
      clear hA
      go_cut [19] (fun s wx => s = .bool true ∧ Kept Non W1 wx)
      case first =>
        first | (go_region_with (first | (go_at_call 80; refine (hop _).mono ?_; rintro e w1 ⟨rfl, hk⟩; obtain ⟨c0, c1, c2, c3, c4, c5⟩ := HS.out _ (Kept.trans HK.out hk); have HK1 := Lib.hid (Kept.trans HK.out hk); clear hk HK; rename Hid (Kept Non W1 _) => HK))) | fail
        all_goals try go_wp2_with fail
        all_goals go_meet
        all_goals exact ⟨rfl, HK.out⟩
      case rest =>
      obtain ⟨rfl, hk⟩ := hcut
      clear c0 c1 c2 c3 c4 c5 f0 f1 f2 f3 f4 f5 HK
      obtain ⟨⟨c0, c1, c2, c3, c4, c5⟩, ⟨f0, f1, f2, f3, f4, f5⟩⟩ := box6 (hk.blk HA.out.box (fun h => h))
      have HK := Lib.hid hk
      clear hk
      go_wp2_with (go_at_call 99; refine (HC.out _).mono ?_; rintro e w1 ⟨rfl, hk⟩; obtain ⟨⟨d0, d1, d2, d3, d4, d5⟩, ⟨g0, g1, g2, g3, g4, g5⟩⟩ := box6 ((HK.out.trans hk).blk HA.out.res (fun h => h)); have HK1 := Lib.hid ((HA.out.kept.trans HK.out).trans hk); clear hk)
      rw [HV.out]
      refine bodyPost_ret (v := capV ⟨b, t, a, p, y, false⟩) (by simp [results, Try.results82, go_sem, capV, d0, d1, d2, d3, d4, d5]) rfl ⟨rfl, ?_⟩
      repeat (refine Kept.setCell ?_ (.inr (by simp)) _)
      exact HK1.out
    · cases g
      · generalize Cap.bound ⟨b, t, a, p, y, false⟩ n = R at *
        simp only [hN, Bool.not_true] at hne
        simp only [Cap.openC, Cap.clear, capV] at hop hne hcl ⊢
        have HC := Lib.hid hcl
        clear hN hB hB' hfi hcl hu hn
        go_enter Try.func82, Try.ntmps82
        go_upto_region 1 with (fail)
        generalize hW : ((w.alloc (.cells #[.int .u64 b, .int .u64 t, .int .u64 a, .int .i64 p, .int .i64 y, .bool false] 30)).alloc (.cells #[.int .u64 0, .int .u64 0, .int .u64 0, .int .i64 0, .int .i64 0, .bool false] 30)) = W1
        have hA : BdAt w ⟨b, t, a, p, y, false⟩ W1 := by
          subst hW
          exact ⟨((Kept.refl Non w).alloc _).alloc _, blk_alloc (blk_new w _) _, blk_new2 w _ _⟩
        clear hW
        have HS := Lib.hid (show ∀ w', Kept Non W1 w' → w'.cell? ⟨w.heap.size, 0, none⟩ = some (.int .u64 b) ∧ w'.cell? ⟨w.heap.size, 1, none⟩ = some (.int .u64 t) ∧ w'.cell? ⟨w.heap.size, 2, none⟩ = some (.int .u64 a) ∧ w'.cell? ⟨w.heap.size, 3, none⟩ = some (.int .i64 p) ∧ w'.cell? ⟨w.heap.size, 4, none⟩ = some (.int .i64 y) ∧ w'.cell? ⟨w.heap.size, 5, none⟩ = some (.bool false) from fun w' hk => (box6 (hk.blk hA.box (fun h => h))).1)
        have HA := Lib.hid hA
        obtain ⟨⟨c0, c1, c2, c3, c4, c5⟩, ⟨f0, f1, f2, f3, f4, f5⟩⟩ := box6 hA.box
        have HK := Lib.hid (Kept.refl Non W1).drew
        clear hA
        go_cut [19] (fun s wx => s = .bool true ∧ Kept Non W1 wx)
        case first =>
          first | (go_region_with (first | (go_at_call 80; refine (hop _).mono ?_; rintro e w1 ⟨rfl, hk⟩; obtain ⟨c0, c1, c2, c3, c4, c5⟩ := HS.out _ (Kept.trans HK.out hk); have HK1 := Lib.hid (Kept.trans HK.out hk); clear hk HK; rename Hid (Kept Non W1 _) => HK))) | fail
          all_goals try go_wp2_with fail
          all_goals go_meet
          all_goals exact ⟨rfl, HK.out⟩
        case rest =>
        obtain ⟨rfl, hk⟩ := hcut
        clear c0 c1 c2 c3 c4 c5 f0 f1 f2 f3 f4 f5 HK
        obtain ⟨⟨c0, c1, c2, c3, c4, c5⟩, ⟨f0, f1, f2, f3, f4, f5⟩⟩ := box6 (hk.blk HA.out.box (fun h => h))
        have HK := Lib.hid hk
        clear hk
        go_wp2_with (go_at_call 99; refine (HC.out _).mono ?_; rintro e w1 ⟨rfl, hk⟩; obtain ⟨⟨d0, d1, d2, d3, d4, d5⟩, ⟨g0, g1, g2, g3, g4, g5⟩⟩ := box6 ((HK.out.trans hk).blk HA.out.res (fun h => h)); have HK1 := Lib.hid ((HA.out.kept.trans HK.out).trans hk); clear hk)
        rw [HV.out]
        refine bodyPost_ret (v := capV ⟨b, t, a, p, y, false⟩) (by simp [results, Try.results82, go_sem, capV, d0, d1, d2, d3, d4, d5]) rfl ⟨rfl, ?_⟩
        repeat (refine Kept.setCell ?_ (.inr (by simp)) _)
        exact HK1.out
      · have hF : Cap.fits ⟨b, t, a, p, y, true⟩ n = false := by simpa [hN] using hB'
        generalize Cap.bound ⟨b, t, a, p, y, true⟩ n = R at *
        simp only [hN, Bool.not_true] at hne
        simp only [hF] at hfi
        have hy : decide (0 ≤ y) = false := by simpa [Cap.openC] using hN
        simp only [Cap.openC, Cap.clear, capV, hy, Bool.not_false, Bool.and_self] at hop hne hcl hfi ⊢
        have HC := Lib.hid hcl
        clear hN hB hB' hcl hu hn hF hy
        go_enter Try.func82, Try.ntmps82
        go_upto_region 1 with (fail)
        generalize hW : ((w.alloc (.cells #[.int .u64 b, .int .u64 t, .int .u64 a, .int .i64 p, .int .i64 y, .bool true] 30)).alloc (.cells #[.int .u64 0, .int .u64 0, .int .u64 0, .int .i64 0, .int .i64 0, .bool false] 30)) = W1
        have hA : BdAt w ⟨b, t, a, p, y, true⟩ W1 := by
          subst hW
          exact ⟨((Kept.refl Non w).alloc _).alloc _, blk_alloc (blk_new w _) _, blk_new2 w _ _⟩
        clear hW
        have HS := Lib.hid (show ∀ w', Kept Non W1 w' → w'.cell? ⟨w.heap.size, 0, none⟩ = some (.int .u64 b) ∧ w'.cell? ⟨w.heap.size, 1, none⟩ = some (.int .u64 t) ∧ w'.cell? ⟨w.heap.size, 2, none⟩ = some (.int .u64 a) ∧ w'.cell? ⟨w.heap.size, 3, none⟩ = some (.int .i64 p) ∧ w'.cell? ⟨w.heap.size, 4, none⟩ = some (.int .i64 y) ∧ w'.cell? ⟨w.heap.size, 5, none⟩ = some (.bool true) from fun w' hk => (box6 (hk.blk hA.box (fun h => h))).1)
        have HA := Lib.hid hA
        obtain ⟨⟨c0, c1, c2, c3, c4, c5⟩, ⟨f0, f1, f2, f3, f4, f5⟩⟩ := box6 hA.box
        have HK := Lib.hid (Kept.refl Non W1).drew
        clear hA
        go_cut [19] (fun s wx => s = .bool true ∧ Kept Non W1 wx)
        case first =>
          first | (go_region_with (first | (go_at_call 80; refine (hop _).mono ?_; rintro e w1 ⟨rfl, hk⟩; obtain ⟨c0, c1, c2, c3, c4, c5⟩ := HS.out _ (Kept.trans HK.out hk); have HK1 := Lib.hid (Kept.trans HK.out hk); clear hk HK; rename Hid (Kept Non W1 _) => HK) | (go_at_call 98; refine (hfi _).mono ?_; rintro e w1 ⟨rfl, hk⟩; obtain ⟨c0, c1, c2, c3, c4, c5⟩ := HS.out _ (Kept.trans HK.out hk); have HK1 := Lib.hid (Kept.trans HK.out hk); clear hk HK; rename Hid (Kept Non W1 _) => HK))) | fail
          all_goals try go_wp2_with fail
          all_goals go_meet
          all_goals exact ⟨rfl, HK.out⟩
        case rest =>
        obtain ⟨rfl, hk⟩ := hcut
        clear c0 c1 c2 c3 c4 c5 f0 f1 f2 f3 f4 f5 HK
        obtain ⟨⟨c0, c1, c2, c3, c4, c5⟩, ⟨f0, f1, f2, f3, f4, f5⟩⟩ := box6 (hk.blk HA.out.box (fun h => h))
        have HK := Lib.hid hk
        clear hk
        go_wp2_with (go_at_call 99; refine (HC.out _).mono ?_; rintro e w1 ⟨rfl, hk⟩; obtain ⟨⟨d0, d1, d2, d3, d4, d5⟩, ⟨g0, g1, g2, g3, g4, g5⟩⟩ := box6 ((HK.out.trans hk).blk HA.out.res (fun h => h)); have HK1 := Lib.hid ((HA.out.kept.trans HK.out).trans hk); clear hk)
        rw [HV.out]
        refine bodyPost_ret (v := capV ⟨b, t, a, p, y, false⟩) (by simp [results, Try.results82, go_sem, capV, d0, d1, d2, d3, d4, d5]) rfl ⟨rfl, ?_⟩
        repeat (refine Kept.setCell ?_ (.inr (by simp)) _)
        exact HK1.out
  · obtain ⟨b, t, a, p, y, g⟩ := c
    have hB' : (decide (Cap.openC ⟨b, t, a, p, y, g⟩ = ⟨b, t, a, p, y, g⟩) && g && Cap.fits ⟨b, t, a, p, y, g⟩ n) = true := hB
    have HV := Lib.hid (show Cap.bound ⟨b, t, a, p, y, g⟩ n = ⟨a, a + n, a, p, y, g⟩ by simp [Cap.bound, hB])
    rw [Bool.and_eq_true, Bool.and_eq_true] at hB'
    obtain ⟨⟨hN, rfl⟩, hF⟩ := hB'
    have hs : IntKind.u64.wrap (a + n) = a + n := IntWalk.u64_in _ (by
      simp only [Cap.fits, decide_eq_true_eq] at hF
      have := hu.2.2.1
      have := hn.1
      constructor
      · simp only at *; omega
      · omega)
    generalize Cap.bound ⟨b, t, a, p, y, true⟩ n = R at *
    simp only [hN, Bool.not_true] at hne
    simp only [hF] at hfi
    have hy : decide (0 ≤ y) = false := by simpa [Cap.openC] using hN
    simp only [Cap.openC, capV, hy, Bool.not_false, Bool.and_self] at hop hne hfi ⊢
    clear hN hB hcl hu hn hF hy
    go_enter Try.func82, Try.ntmps82
    go_upto_region 1 with (fail)
    generalize hW : ((w.alloc (.cells #[.int .u64 b, .int .u64 t, .int .u64 a, .int .i64 p, .int .i64 y, .bool true] 30)).alloc (.cells #[.int .u64 0, .int .u64 0, .int .u64 0, .int .i64 0, .int .i64 0, .bool false] 30)) = W1
    have hA : BdAt w ⟨b, t, a, p, y, true⟩ W1 := by
      subst hW
      exact ⟨((Kept.refl Non w).alloc _).alloc _, blk_alloc (blk_new w _) _, blk_new2 w _ _⟩
    clear hW
    have HS := Lib.hid (show ∀ w', Kept Non W1 w' → w'.cell? ⟨w.heap.size, 0, none⟩ = some (.int .u64 b) ∧ w'.cell? ⟨w.heap.size, 1, none⟩ = some (.int .u64 t) ∧ w'.cell? ⟨w.heap.size, 2, none⟩ = some (.int .u64 a) ∧ w'.cell? ⟨w.heap.size, 3, none⟩ = some (.int .i64 p) ∧ w'.cell? ⟨w.heap.size, 4, none⟩ = some (.int .i64 y) ∧ w'.cell? ⟨w.heap.size, 5, none⟩ = some (.bool true) from fun w' hk => (box6 (hk.blk hA.box (fun h => h))).1)
    have HA := Lib.hid hA
    obtain ⟨⟨c0, c1, c2, c3, c4, c5⟩, ⟨f0, f1, f2, f3, f4, f5⟩⟩ := box6 hA.box
    have HK := Lib.hid (Kept.refl Non W1).drew
    clear hA
    go_cut [19] (fun s wx => s = .bool false ∧ Kept Non W1 wx)
    case first =>
      first | (go_region_with (first | (go_at_call 80; refine (hop _).mono ?_; rintro e w1 ⟨rfl, hk⟩; obtain ⟨c0, c1, c2, c3, c4, c5⟩ := HS.out _ (Kept.trans HK.out hk); have HK1 := Lib.hid (Kept.trans HK.out hk); clear hk HK; rename Hid (Kept Non W1 _) => HK) | (go_at_call 98; refine (hfi _).mono ?_; rintro e w1 ⟨rfl, hk⟩; obtain ⟨c0, c1, c2, c3, c4, c5⟩ := HS.out _ (Kept.trans HK.out hk); have HK1 := Lib.hid (Kept.trans HK.out hk); clear hk HK; rename Hid (Kept Non W1 _) => HK))) | fail
      all_goals try go_wp2_with fail
      all_goals go_meet
      all_goals exact ⟨rfl, HK.out⟩
    case rest =>
    obtain ⟨rfl, hk⟩ := hcut
    clear c0 c1 c2 c3 c4 c5 f0 f1 f2 f3 f4 f5 HK
    obtain ⟨⟨c0, c1, c2, c3, c4, c5⟩, ⟨f0, f1, f2, f3, f4, f5⟩⟩ := box6 (hk.blk HA.out.box (fun h => h))
    obtain ⟨⟨d0, d1, d2, d3, d4, d5⟩, ⟨g0, g1, g2, g3, g4, g5⟩⟩ := box6 (hk.blk HA.out.res (fun h => h))
    have HK1 := Lib.hid (HA.out.kept.trans hk)
    clear hk
    go_wp2
    rw [HV.out]
    refine bodyPost_ret (v := capV ⟨a, a + n, a, p, y, true⟩) (by simp [results, Try.results82, go_sem, capV, d0, d1, d2, d3, d4, d5]) rfl ⟨rfl, ?_⟩
    repeat (refine Kept.setCell ?_ (.inr (by simp)) _)
    exact HK1.out

end Go.Proofs.Ytkmbmbpjppjdjaa
