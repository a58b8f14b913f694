/- Walks: does a list tell these texts ('told' of law 19), where it does. -/
import Derived.Test.YtkmbmbpjppjdjaaAwk
namespace Go.Proofs.Ytkmbmbpjppjdjaa
open Go.RowKit Go.Maps TmP
set_option linter.unusedSimpArgs false
set_option linter.unusedVariables false
set_option maxRecDepth 100000

/-- What 'told' asks of a memory: M's capability at base + 32 k is text k's, at A k. -/
structure Tells (M : PM) (B : Int) (l : List ByteArray) (A : Nat → Int) : Prop where
  b0 : 0 ≤ B
  b1 : B + 32 * l.length ≤ 16777216
  size : ∀ k (h : k < l.length), (l[k]).size ≤ 200
  a0 : ∀ k, k < l.length → 0 ≤ A k
  a1 : ∀ k, k < l.length → A k ≤ 16777216
  gran : ∀ k, k < l.length → granE M.keys (B + 32 * (k : Int)) = 0
  cap : ∀ k (h : k < l.length), M.loadCap (B + 32 * (k : Int)) = ofC (A k) ((l[k]).size + 1) 1
  bytes : ∀ k (h : k < l.length), M.bytes (A k) ((l[k]).size + 1) = bsI l[k] ++ [0]
  egran : granE M.keys (B + 32 * l.length) = 0
  etag : (M.loadCap (B + 32 * l.length)).tag = false

theorem byte_list (s : ByteArray) : (⟨s.data.toList.toArray⟩ : ByteArray) = s := by cases s; simp

theorem add_mk' (b o k : Nat) : (Addr.mk b o none).add k = ⟨b, o + k, none⟩ := addr_add' b o k

set_option maxHeartbeats 1600000 in
theorem told_any {F G : Nat → Prop} {M : PM} (m : Nat) (B T at_ p y : Int) (v : Value) (l : List ByteArray) (A : Nat → Int) (w : World) (h : MemAt w m M F) (hv : SeqAt strE 1 w v l G) (hn : l.length ≤ 1000) (hT : Tells M B l A) (hTop : T = B + 32 * l.length) :
    Calls Try.prog 18 #[.pointer (some ⟨m, 0, none⟩), capV ⟨B, T, at_, p, y, true⟩, v] w fun e w' => e = .returned (.bool true) ∧ Kept Non w w' := by
  obtain ⟨ao, cap, rfl, hcap, hq⟩ := hv
  have HQ := Lib.hid hq
  have H := Lib.hid h
  have HT := Lib.hid hT
  have hb0 := hT.b0
  have hb1 := hT.b1
  have e0 : IntKind.u64.wrap (T - B) = 32 * (l.length : Int) := by rw [hTop, IntWalk.u64_in _ (by omega)]; omega
  have hlc := fun w' (hk : Kept Non w w') => loadcap_any (H.out.kept0 hk) T (by omega) (by omega)
  have hT1 : 0 ≤ T := by omega
  have hT2 : T ≤ 16777216 := by omega
  have hd0 : (T - B != 32 * (l.length : Int)) = false := by simp; omega
  have hTB : 0 ≤ T - B := by omega
  have eg : granE M.keys T = 0 := by rw [hTop]; exact hT.egran
  have et : (M.loadCap T).tag = false := by rw [hTop]; exact hT.etag
  rw [eg] at hlc
  generalize M.loadCap T = CE at hlc et
  obtain ⟨x0, x1, x2, x3, x4, x5⟩ := CE
  simp only at et
  subst et
  simp only [capV] at hlc ⊢
  have HLC := Lib.hid hlc
  clear hq h hT eg hlc hTop
  go_enter Try.func18, Try.ntmps18
  go_wp2_with fail
  obtain ⟨w1, hw1⟩ : ∃ w1, w1 = w.alloc (.cells #[.int .u64 B, .int .u64 T, .int .u64 at_, .int .i64 p, .int .i64 y, .bool true] 30) := ⟨_, rfl⟩
  have hbx := blk_new w (.cells #[.int .u64 B, .int .u64 T, .int .u64 at_, .int .i64 p, .int .i64 y, .bool true] 30)
  have hk1 := (Kept.refl Non w).alloc (.cells #[.int .u64 B, .int .u64 T, .int .u64 at_, .int .i64 p, .int .i64 y, .bool true] 30)
  rw [← hw1] at hbx hk1 ⊢
  have HBX := Lib.hid hbx
  have HK1 := Lib.hid hk1
  clear hbx hk1 hw1 e0 hd0
  go_loopw [7, 8, 9, 10] (fun i _ _ _ wr => ∃ k : Nat, k ≤ l.length ∧ i = .int .i64 k ∧ Kept Non w1 wr) (fun i _ _ _ _ => l.length - (intOf i).toNat)
  case atStart => exact ⟨0, Nat.zero_le _, rfl, Kept.refl _ _⟩
  case round =>
    obtain ⟨k, hk, rfl, hK⟩ := hrel
    have HK := Lib.hid hK
    have HKW := Lib.hid (HK1.out.trans hK)
    obtain ⟨⟨b0, b1, b2, b3, b4, b5⟩, _⟩ := box6 (hK.blk HBX.out (fun h => h))
    clear hK
    by_cases hlt : k < l.length
    · obtain ⟨g, off, rfl, hc⟩ : ∃ g off, ao = some ⟨g, off, none⟩ ∧ w.cell? ⟨g, off + k, none⟩ = some (.string l[k]) := by
        rcases HQ.out with h | ⟨g, off, h1, _, _, h4⟩
        · subst h; simp at hlt
        · exact ⟨g, off, h1, by simpa using h4 k l[k] (List.getElem?_eq_getElem hlt) 0 _ rfl⟩
      have hsz := HT.out.size k hlt
      have ha0 := HT.out.a0 k hlt
      have ha1 := HT.out.a1 k hlt
      have hlc := loadcap_any (H.out.kept0 HKW.out) (B + 32 * (k : Int)) (by omega) (by omega)
      rw [HT.out.gran k hlt, HT.out.cap k hlt] at hlc
      have hby := fun w' (hk : Kept Non w w') => bytes_any (H.out.kept0 hk) (A k) ((l[k]).size + 1) (by omega) (by omega)
      rw [HT.out.bytes k hlt] at hby
      generalize A k = z at hlc hby ha0 ha1
      generalize hx : l[k] = s at hc hsz hlc hby
      simp only [capV, ofC] at hlc
      have HLC1 := Lib.hid hlc
      have HBY := Lib.hid hby
      have HC := Lib.hid hc
      clear hlc hby hx hc
      go_upto_region 7 with (go_at_call 30; refine HLC1.out.mono ?_; rintro e w4 ⟨rfl, hk4⟩; have HK4 := Lib.hid hk4; clear hk4)
      have hbx := blk_new w4 (.cells #[.int .u64 z, .int .u64 (z + ((s.size : Int) + 1)), .int .u64 z, .int .i64 1, .int .i64 (-1), .bool true] 30)
      have hky := (HK.out.trans HK4.out).alloc (.cells #[.int .u64 z, .int .u64 (z + ((s.size : Int) + 1)), .int .u64 z, .int .i64 1, .int .i64 (-1), .bool true] 30)
      generalize w4.alloc (.cells #[.int .u64 z, .int .u64 (z + ((s.size : Int) + 1)), .int .u64 z, .int .i64 1, .int .i64 (-1), .bool true] 30) = wy at hbx hky ⊢
      have HBY2 := Lib.hid hbx
      have HKY := Lib.hid hky
      have hcy := (HK1.out.trans hky).cell HC.out (fun h => h)
      have hi0 : (0 : Int) ≤ k := by omega
      have hi1 : (k : Int) < l.length := by omega
      have e1 : IntKind.i64.wrap ((s.size : Int) + 1) = (s.size : Int) + 1 := IntWalk.i64_in _ (by omega)
      go_cut [10] (fun v wx => ∃ g2 cap2, v = .slice (some ⟨g2, 0, none⟩) (s.size + 1) cap2 ∧ s.size + 1 ≤ cap2 ∧ (∀ j x, (bsI s ++ [0])[j]? = some x → wx.cell? ⟨g2, 0 + j, none⟩ = some (.int .u8 x)) ∧ Kept Non wy wx)
      case first =>
        obtain ⟨⟨d0, d1, d2, d3, d4, d5⟩, _⟩ := box6 hbx
        clear hbx hky b0 b1 b2 b3 b4 b5
        go_region_with (go_at_call 33; refine (HBY.out _ ((HK1.out.trans HKY.out).drew)).mono ?_; rintro e w5 ⟨v5, rfl, ho, hk5⟩; have HO5 := Lib.hid ho; have HK5 := Lib.hid hk5; clear ho hk5)
        all_goals try go_wp2_with fail
        all_goals go_meet
        all_goals
          obtain ⟨hn5, g2, cap2, rfl, _, _, hc2, hcell⟩ := own_bytes HO5.out (by simp)
          have hl5 : (bsI s ++ [0]).length = s.size + 1 := bz_len s
          rw [hl5] at hc2 ⊢
          exact ⟨g2, cap2, rfl, hc2, hcell, ((Kept.refl Non wy).drew).trans HK5.out⟩
      case rest =>
      clear hbx hky b0 b1 b2 b3 b4 b5 hcy
      obtain ⟨g2, cap2, rfl, hc2, hcell, hk5⟩ := hcut
      obtain ⟨⟨d0, d1, d2, d3, d4, d5⟩, _⟩ := box6 (hk5.blk HBY2.out (fun h => h))
      have hcy := ((HK1.out.trans HKY.out).trans hk5).cell HC.out (fun h => h)
      have HK5 := Lib.hid (HKY.out.trans hk5)
      have hl : (bsI s ++ [0]).length = s.size + 1 := bz_len s
      have hz : wc.cell? ⟨g2, s.size, none⟩ = some (.int .u8 0) := by
        have := hcell s.size 0 (by rw [List.getElem?_append_right (by rw [bsI_length]; omega), bsI_length]; simp)
        rwa [Nat.zero_add] at this
      have hcv : ∀ q, (convert 63 9 (.slice (some ⟨g2, 0, none⟩) s.size cap2)).run Try.prog (wc.drewN q) = .ok (.string s) (wc.drewN q) := fun q => by
        have h1 := run_convert_bytes_back (P := Try.prog) (wc.drewN q) 63 9 5 ⟨g2, 0, none⟩ cap2 s.data.toList Try.underlying63 Try.underlying5 Try.underlying9 (fun j hj => by
          have h2 := hcell j (s.data.toList[j].toNat : Int) (by
            rw [List.getElem?_append_left (by rw [bsI_length]; simpa using hj)]
            simp [bsI, List.getElem?_eq_getElem hj])
          rw [add_mk']
          exact h2)
        rw [byte_list] at h1
        have hs : s.data.toList.length = s.size := by simp
        rw [hs] at h1
        exact h1
      have e2 : IntKind.u64.wrap ((s.size : Int) + 1) = (s.size : Int) + 1 := IntWalk.u64_in _ (by omega)
      have e3 : IntKind.u64.wrap (z + ((s.size : Int) + 1) - z) = (s.size : Int) + 1 := by rw [IntWalk.u64_in _ (by omega)]; omega
      have HCELL := Lib.hid hcell
      clear hk5 hcell hl
      go_wp2_with fail
      go_quiet (fail)
      go_wp2_with fail
      go_quiet (fail)
      all_goals go_wp2_with fail
      all_goals exact ⟨⟨k + 1, by omega, by go_num, HK5.out.drewN _⟩, by simp [intOf]; omega⟩
    · obtain rfl : k = l.length := by omega
      go_wp2_with (go_at_call 30; refine (HLC.out _ HKW.out).mono ?_; rintro e w4 ⟨rfl, hk4⟩; have HK4 := Lib.hid (HKW.out.trans hk4); clear hk4)
      go_ret
      exact ⟨rfl, HK4.out.alloc _⟩

end Go.Proofs.Ytkmbmbpjppjdjaa
