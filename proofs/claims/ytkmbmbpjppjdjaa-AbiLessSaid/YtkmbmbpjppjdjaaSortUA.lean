/- The sort at uint64, walk A: slices.Sort at []uint64. Written by my program turnsort.py after the kit's worked walk at int. -/
import Derived.Test.YtkmbmbpjppjdjaaSortU0
import Derived.Test.YtkmbmbpjppjdjaaSortU2
import Derived.Test.YtkmbmbpjppjdjaaSortU3
import Derived.Test.YtkmbmbpjppjdjaaSortU5
import Derived.Test.YtkmbmbpjppjdjaaSortU6
import Derived.Test.YtkmbmbpjppjdjaaSortU8
import Derived.Test.YtkmbmbpjppjdjaaSortU9
import Derived.Sort.AssemblyPlain
import Derived.Sort.LotD1
import Derived.Sort.WalkA14
namespace Go.Proofs.Ytkmbmbpjppjdjaa
open Go.RowKit Go.Sort Go.Proofs
set_option linter.unusedVariables false
set_option linter.unusedSimpArgs false

def Su_pdqWalk : Prop := ∀ (blk off cap a b limit : Nat) (d : Array Int) (w : World), Holds (Value.int .u64) w blk off d → blk < w.heap.size → a ≤ b → b ≤ d.size → d.size < 4611686018427387904 → limit < 4611686018427387904 → Below ltInt a b d →
  Calls Try.prog 89 #[.slice (some ⟨blk, off, none⟩) d.size cap, .int .i64 a, .int .i64 b, .int .i64 limit] w fun e w' =>
    e = .returned (.tuple #[]) ∧ ∃ n os, w' = grow (putRow (Value.int .u64) (Sort.ahead w n) blk off (Sort.pdq ltInt d a b limit true true)) os

set_option maxRecDepth 100000 in

theorem Su_Sort_int (hpdq : Su_pdqWalk) (blk off cap : Nat) (d : Array Int) (w : World) (hH : Holds (Value.int .u64) w blk off d) (hblk : blk < w.heap.size) (hsz : d.size < 4611686018427387904) :
    Calls Try.prog 54 #[.slice (some ⟨blk, off, none⟩) d.size cap] w fun e w' => e = .returned (.tuple #[]) ∧ ∃ n os, w' = grow (putRow (Value.int .u64) (Sort.ahead w n) blk off (Sort.sort ltInt d)) os := by
  have HH : Hid (Holds (Value.int .u64) w blk off d) := hH
  clear hH
  have hLen : ∀ w, Calls Try.prog 90 #[.int .u64 (d.size : Int)] w fun e w' => e = .returned (.int .i64 (bitsLen d.size : Nat)) ∧ w' = w := fun w => by
    have h := Su_bits_Len (d.size : Int) w (by omega) (by omega)
    rwa [Int.toNat_natCast, bitLen_eq _ (by omega)] at h
  have hk : bitsLen d.size ≤ 62 := (bitsLen_le_iff d.size 62).2 (by omega)
  go_enter Try.func54, Try.ntmps54
  go_wp2_with (first
    | (go_at_call 90; refine (hLen _).mono ?_; rintro e w' ⟨rfl, rfl⟩)
    | (go_at_call 89; refine (hpdq blk off cap 0 d.size (bitsLen d.size) d _ (by exact HH.out) (by exact hblk) (Nat.zero_le _) (Nat.le_refl _) hsz (by omega) (Or.inl rfl)).mono ?_; rintro e w' ⟨rfl, n, os, rfl⟩))
  go_end0
  exact ⟨rfl, n, os, rfl⟩

theorem suCallees : SuCallees where
  ins := Su_insertionSort_int
  brk := Su_breakPatterns_int
  piv := Su_choosePivot_int
  par := Su_partialInsertionSort_int
  peq := Su_partitionEqualOrdered_int
  prt := Su_partitionOrdered_int

theorem suPlain : SuPlain where
  swo := swo_ltInt
  ins := insertionSort_holds
  par := partialInsertionSort_holds
  prt := partition_holds _
  peq := partitionEqual_holds _
  pdq := pdq_sorts _

theorem suPdq : Su_pdqWalk := fun blk off cap a b limit d w hH hb hab hbd hsz hl hB =>
  Su_pdqsort_int suCallees suPlain (b - a + 1) blk off cap a b limit d w (by omega) hH hb hab hbd hsz hl hB

/-- slices.Sort at []uint64. -/
theorem sortu_any (blk off cap : Nat) (zs : List Int) (w : World) (hH : Holds (Value.int .u64) w blk off zs.toArray) (hblk : blk < w.heap.size) (hsz : zs.length < 4611686018427387904) :
    Calls Try.prog 54 #[.slice (some ⟨blk, off, none⟩) zs.length cap] w fun e w' =>
      e = .returned (.tuple #[]) ∧ ∃ n os, w' = grow (putRow (Value.int .u64) (Sort.ahead w n) blk off (zs.mergeSort fun x y => decide (x ≤ y)).toArray) os := by
  have h := Su_Sort_int suPdq blk off cap zs.toArray w hH hblk (by simpa using hsz)
  rw [← sortInt zs]
  simpa using h

end Go.Proofs.Ytkmbmbpjppjdjaa
