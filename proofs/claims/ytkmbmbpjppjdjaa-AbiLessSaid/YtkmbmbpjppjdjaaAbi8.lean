/- Walks: what a program begins with is built: no error. -/
import Derived.Test.YtkmbmbpjppjdjaaAbi7
namespace Go.Proofs.Ytkmbmbpjppjdjaa
open Go.RowKit Go.Maps TmP
set_option linter.unusedSimpArgs false
set_option linter.unusedVariables false
set_option maxRecDepth 100000

theorem Kept.tight {F : Nat → Prop} {w w' : World} (h : Kept (fun k => F k ∨ w.heap.size ≤ k) w w') : Kept F w w' := ⟨h.os, h.tape, h.output, h.size, fun k hk hn => h.block k hk (fun hh => hh.elim hn (fun h => by omega))⟩

theorem set6_start {w : World} {b : Nat} {s a e x : Cap} {T : TypeId} (h : w.heap[b]? = some (.cells (startL zc a e x).toArray T (0, 0))) :
    ((((((w.setCell ⟨b, 0, none⟩ (.int .u64 s.base)).setCell ⟨b, 1, none⟩ (.int .u64 s.top)).setCell ⟨b, 2, none⟩ (.int .u64 s.at_)).setCell ⟨b, 3, none⟩ (.int .i64 s.perms)).setCell ⟨b, 4, none⟩ (.int .i64 s.typ)).setCell ⟨b, 5, none⟩ (.bool s.tag)).heap[b]? = some (.cells (startL s a e x).toArray T (0, 0)) :=
  blk_setCell (blk_setCell (blk_setCell (blk_setCell (blk_setCell (blk_setCell h 0 _) 1 _) 2 _) 3 _) 4 _) 5 _

section
variable {Ga Gb Gc : Nat → Prop}
set_option maxHeartbeats 2000000 in
theorem build_ok {F : Nat → Prop} {M : PM} (m : Nat) (f p : Int) (va vb vc : Value) (la lb : List ByteArray) (lc : List Cap) (w : World) (h : MemAt w m M F)
    (ha : SeqAt strE 1 w va la Ga) (hb : SeqAt strE 1 w vb lb Gb) (hc : SeqAt capE 6 w vc lc Gc) (sa : Slc va) (sb : Slc vb) (sc : Slc vc)
    (hGa : ∀ k, Ga k → ¬ F k) (hGb : ∀ k, Gb k → ¬ F k) (hGc : ∀ k, Gc k → ¬ F k)
    (hsa : ∀ x ∈ la, x.size ≤ 140737488355328) (hsb : ∀ x ∈ lb, x.size ≤ 140737488355328) (hU : ∀ c ∈ lc, Cap.U c) (hf0 : 0 ≤ f) (hf1 : f < 18446744073709551616) (hp0 : -1000 ≤ p) (hp1 : p ≤ 1000)
    (hR : rightB la lb lc = true) (hN : ¬ needN la lb lc.length > p * 256 - 64) (hE : M.mapE f p = 0) :
    Calls Try.prog 17 #[.pointer (some ⟨m, 0, none⟩), .int .u64 f, .int .i64 p, va, vb, vc] w
      (Does w m F (.tuple #[startV (stackC f p la lb lc.length) (ofC (at1 f la lb) (32 * la.length) 9) (ofC (at2 f la lb) (32 * lb.length) 9) (ofC (at3 f la lb) (32 * lc.length) 9), .int .i64 0]) (M.built f p la lb lc)) := by
  obtain ⟨hla, hlb, hlc, hta, htb, _⟩ := rightB_few hR
  have hza := sizeL_le la hta
  have hzb := sizeL_le lb htb
  have hya := sizeL_nonneg la
  have hyb := sizeL_nonneg lb
  obtain ⟨hs1, hs2, hs3, hs4⟩ : 1 ≤ p ∧ p ≤ 65536 ∧ f < 65536 ∧ f + p ≤ 65536 := by
    have : someB f p = true := by
      by_cases h : someB f p = true
      · exact h
      · have : M.mapE f p = 1 := mapE_1 (by simpa using h)
        omega
    simpa [someB] using this
  have h1 := fun w' (hk : Kept Non w w') => right_any va vb vc la lb lc w' (ha.kept0 hk) (hb.kept0 hk) (hc.kept0 hk) (by omega) (by omega) (by omega) hsa hsb
  have h2 := fun w' (hk : Kept Non w w') => need_any va vb vc la lb lc.length w' (ha.kept0 hk) (hb.kept0 hk) sa sb (by omega) (by omega) (by omega) (by rw [sizeL_append]; omega) (by obtain ⟨ao, c, h, _⟩ := hc; exact ⟨ao, c, h⟩)
  have h3 := fun w' (hk : Kept Non w w') => map_any (h.kept0 hk) f p hf0 hf1
  simp only [hR] at h1
  rw [hE] at h3
  have hd1 : p ≤ 65536 := by omega
  have hneed : needN la lb lc.length = upZ (sizeL la + sizeL lb) + 32 * ((la.length : Int) + lb.length + lc.length + 3) := by rw [needN, sizeL_append]
  have hup : 0 ≤ upZ (sizeL la + sizeL lb) ∧ sizeL la + sizeL lb ≤ upZ (sizeL la + sizeL lb) ∧ upZ (sizeL la + sizeL lb) ≤ 4000 := by unfold upZ; omega
  have hfit : upZ (sizeL la + sizeL lb) + 32 * ((la.length : Int) + lb.length + lc.length + 3) ≤ p * 256 - 64 := by rw [← hneed]; omega
  clear hneed
  have hka := fun w' (hk : Kept (fun k => F k ∨ w.heap.size ≤ k) w w') => ((ha.mono (G' := fun k => Ga k ∧ k < w.heap.size) (fun k hk hg => ⟨hg, hk⟩)).kept hk (fun k hk hf => hf.elim (hGa k hk.1) (fun h => by omega)))
  have hkb := fun w' (hk : Kept (fun k => F k ∨ w.heap.size ≤ k) w w') => ((hb.mono (G' := fun k => Gb k ∧ k < w.heap.size) (fun k hk hg => ⟨hg, hk⟩)).kept hk (fun k hk hf => hf.elim (hGb k hk.1) (fun h => by omega)))
  have hkc := fun w' (hk : Kept (fun k => F k ∨ w.heap.size ≤ k) w w') => ((hc.mono (G' := fun k => Gc k ∧ k < w.heap.size) (fun k hk hg => ⟨hg, hk⟩)).kept hk (fun k hk hf => hf.elim (hGc k hk.1) (fun h => by omega)))
  have HA := Lib.hid hka
  have HBb := Lib.hid hkb
  have HC := Lib.hid hkc
  have HGA := Lib.hid hGa
  have HGB := Lib.hid hGb
  have HU := Lib.hid hU
  have H := Lib.hid h
  have H1 := Lib.hid h1
  have H2 := Lib.hid h2
  have H3 := Lib.hid h3
  clear h1 h2 h3 h ha hb hc hR hE hka hkb hkc hGa hGb hGc hta htb hsa hsb hU
  generalize hNN : needN la lb lc.length = N at H2 hN
  generalize hM1 : M.map f p = M1 at H3
  go_enter Try.func17, Try.ntmps17
  go_wp2_with (first
    | (go_at_call 44; refine (H1.out _ ((Kept.refl _ _).alloc _)).mono ?_; rintro e w1 ⟨rfl, hk⟩; have HK := Lib.hid (((Kept.refl _ _).alloc _).trans hk); have HB := Lib.hid (hk.blk (blk_new w _) (fun h => h)); clear hk)
    | (go_at_call 20; refine (H2.out _ HK.out).mono ?_; rintro e w2 ⟨rfl, hk⟩; have HK2 := Lib.hid (HK.out.trans hk); have HB2 := Lib.hid (hk.blk HB.out (fun h => h)); clear hk)
    | (go_at_call 34; refine (H3.out _ HK2.out).mono ?_; rintro e w3 ⟨rfl, F', hm, hk, hF⟩; have HM3 := Lib.hid hm; have HK3 := Lib.hid hk; have HF := Lib.hid hF; have HB3 := Lib.hid (hk.blk HB2.out (fun h => absurd (H.out.lt _ h) (by omega))); clear hk hm hF))
  have hsz3 : w.heap.size + 1 ≤ w3.heap.size := by have := HK2.out.size; have := HK3.out.size; have := lt_blk HB2.out; omega
  have hsz2 : w.heap.size + 1 ≤ w2.heap.size := lt_blk HB2.out
  have hFlt : ∀ k, F' k → k < w3.heap.size := HM3.out.lt
  have hFn : ∀ k, F' k → F k ∨ w.heap.size + 1 ≤ k := fun k hk => (HF.out k hk).elim .inl (fun h => .inr (by omega))
  have hFL : ¬ F' w3.heap.size := fun h => by have := hFlt _ h; omega
  have hFR : ¬ F' w.heap.size := fun h => by
    rcases hFn _ h with h | h
    · have := H.out.lt _ h; omega
    · omega
  have HFL := Lib.hid hFL
  have HFR := Lib.hid hFR
  have HFN := Lib.hid hFn
  have HFLT := Lib.hid hFlt
  have HKW3 := Lib.hid ((HK2.out.mono (G := fun k => F k ∨ w.heap.size ≤ k) (fun _ h => h.elim)).trans (HK3.out.mono (fun _ h => .inl h)))
  have hGA' : ∀ k, (Ga k ∧ k < w.heap.size) → ¬ F' k ∧ k ≠ w3.heap.size := fun k hk => ⟨fun h => (hFn k h).elim (HGA.out k hk.1) (fun h => by omega), by omega⟩
  have hGB' : ∀ k, (Gb k ∧ k < w.heap.size) → ¬ F' k ∧ k ≠ w3.heap.size := fun k hk => ⟨fun h => (hFn k h).elim (HGB.out k hk.1) (fun h => by omega), by omega⟩
  have HGA' := Lib.hid hGA'
  have HGB' := Lib.hid hGB'
  clear hFlt hFn hFL hFR hGA' hGB'
  refine (texts_any (HM3.out.kept0 ((Kept.refl _ _).alloc _)) w3.heap.size (f * 256) va la (blk_new w3 _) HFL.out (HA.out _ (HKW3.out.alloc _)) HGA'.out (by omega) (by omega) (by omega)).mono ?_
  rintro e w5 ⟨v5, rfl, hr5, hm5, hl5, hk5⟩
  have hq5 : SeqAt capE 6 w5 v5 (layC (f * 256) la) (fun k => w3.heap.size + 1 ≤ k) := seq_of_own (l := layC (f * 256) la) (ownsRow_mono (by rw [layC_length]; exact hr5) (by simp)) rfl (fun _ _ => rfl)
  have hS5 := slc_own hr5
  have HQ5 := Lib.hid hq5
  have HS5 := Lib.hid hS5
  have HM5 := Lib.hid hm5
  have HL5 := Lib.hid hl5
  have HKW5 := Lib.hid ((HKW3.out.alloc (.cells #[.pointer (some ⟨m, 0, none⟩), .int .u64 (f * 256)] 86)).trans (hk5.mono (fun k hk => by
    rcases hk with hk | hk
    · rcases HFN.out k hk with h | h
      · exact .inl h
      · exact .inr (by omega)
    · exact .inr (by omega))))
  have HR5 := Lib.hid (hk5.blk (blk_alloc HB3.out _) (fun hh => hh.elim HFR.out (fun h => by omega)))
  have hsz5 : w3.heap.size + 1 ≤ w5.heap.size := by have := hk5.size; simpa using this
  clear hr5 hm5 hl5 hk5 hq5 hS5
  go_wp2_with fail
  refine (texts_any HM5.out w3.heap.size (f * 256 + sizeL la) vb lb HL5.out HFL.out (HBb.out _ HKW5.out) HGB'.out (by omega) (by omega) (by omega)).mono ?_
  rintro e w6 ⟨v6, rfl, hr6, hm6, hl6, hk6⟩
  have hq6 : SeqAt capE 6 w6 v6 (layC (f * 256 + sizeL la) lb) (fun k => w3.heap.size + 1 ≤ k) := seq_of_own (l := layC (f * 256 + sizeL la) lb) (ownsRow_mono (by rw [layC_length]; exact hr6) hsz5) rfl (fun _ _ => rfl)
  have hd6 : ∀ k, w3.heap.size + 1 ≤ k → ¬ (F' k ∨ k = w3.heap.size) := fun k hk hh => hh.elim (fun h => by have := HFLT.out k h; omega) (fun h => by omega)
  have HD6 := Lib.hid hd6
  have HQ5b := Lib.hid (HQ5.out.kept hk6 hd6)
  have HS6 := Lib.hid (slc_own hr6)
  have HQ6 := Lib.hid hq6
  have HM6 := Lib.hid hm6
  have HL6 := Lib.hid hl6
  have hwide : ∀ k, (F' k ∨ k = w3.heap.size) → F k ∨ w.heap.size ≤ k := fun k hk => by
    rcases hk with hk | hk
    · rcases HFN.out k hk with h | h
      · exact .inl h
      · exact .inr (by omega)
    · exact .inr (by omega)
  have HWD := Lib.hid hwide
  have hrr : ¬ (F' w.heap.size ∨ w.heap.size = w3.heap.size) := fun hh => hh.elim HFR.out (fun h => by omega)
  have HRR := Lib.hid hrr
  have HKW6 := Lib.hid (HKW5.out.trans (hk6.mono hwide))
  have HR6 := Lib.hid (hk6.blk HR5.out hrr)
  have hsz6 : w5.heap.size ≤ w6.heap.size := hk6.size
  have d0 := cell_blk hl6 0
  have d1 := cell_blk hl6 1
  have d2 := free_blk hl6 1
  simp only [List.getElem?_toArray, List.getElem?_cons_zero, List.getElem?_cons_succ] at d0 d1
  clear hr6 hm6 hl6 hk6 hq6 hd6 HQ5 HM5 HL5 HR5 hwide hrr
  have HUP := Lib.hid (fun w => up_any (sizeL la + sizeL lb) (by omega) (by omega) w)
  have HX := Lib.hid (show f * 256 + sizeL la + sizeL lb - f * 256 = sizeL la + sizeL lb by omega)
  generalize hUU : upZ (sizeL la + sizeL lb) = U at hup hfit HUP
  go_wp2_with (go_at_call 46; rw [HX.out]; refine (HUP.out _).mono ?_; rintro e w' ⟨rfl, rfl⟩)
  have hk7 : Kept (fun k => k = w3.heap.size) w6 (w6.setCell ⟨w3.heap.size, 1, none⟩ (.int .u64 (f * 256 + U))) := (Kept.refl (fun k => k = w3.heap.size) w6).setCell (p := ⟨w3.heap.size, 1, none⟩) (.inl rfl) _
  have hm7 := HM6.out.kept hk7 (fun k hk e => HFL.out (e ▸ hk))
  have hl7 : LayAt (w6.setCell ⟨w3.heap.size, 1, none⟩ (.int .u64 (f * 256 + U))) w3.heap.size m (f * 256 + U) := blk_setCell HL6.out 1 _
  have hq7 := HQ5b.out.kept hk7 (fun k hk e => by omega)
  have hq7b := HQ6.out.kept hk7 (fun k hk e => by omega)
  have HQ7b := Lib.hid hq7b
  have HKW7 := Lib.hid (HKW6.out.trans (hk7.mono (fun k hk => HWD.out k (.inr hk))))
  have HR7 := Lib.hid (hk7.blk HR6.out (by omega))
  have ha0 := layC_ok la (f * 256) (by omega) (by omega)
  have hb0 := layC_ok lb (f * 256 + sizeL la) (by omega) (by omega)
  have HLA := Lib.hid (layC_length la (f * 256))
  have HLB := Lib.hid (layC_length lb (f * 256 + sizeL la))
  have HB0 := Lib.hid hb0
  clear d0 d1 d2 hb0
  refine (list_any hm7 w3.heap.size (f * 256 + U) v5 (layC (f * 256) la) hl7 HFL.out hq7 HS5.out (by rw [HLA.out]; omega) (fun c hc => (ha0 c hc).1) (by omega) (by rw [HLA.out]; omega)).mono ?_
  rw [HLA.out]
  rintro e w8 ⟨rfl, hm8, hl8, hk8⟩
  have HM8 := Lib.hid hm8
  have HL8 := Lib.hid hl8
  have HQ8 := Lib.hid (HQ7b.out.kept hk8 HD6.out)
  have HKW8 := Lib.hid (HKW7.out.trans (hk8.mono HWD.out))
  have HR8 := Lib.hid (hk8.blk HR7.out HRR.out)
  have hsz8 := hk8.size
  simp only [World.size_setCell] at hsz8
  clear hm7 hl7 hq7 hq7b hk7 hm8 hl8 hk8 ha0 HM6 HL6 HR6 HR7 HQ5b HQ6 HQ7b
  simp only [capV]
  go_wp2_with fail
  refine (list_any HM8.out w3.heap.size (f * 256 + U + 32 * ((la.length : Int) + 1)) v6 (layC (f * 256 + sizeL la) lb) HL8.out HFL.out HQ8.out HS6.out (by rw [HLB.out]; omega) (fun c hc => (HB0.out c hc).1) (by omega) (by rw [HLB.out]; omega)).mono ?_
  rw [HLB.out]
  rintro e w9 ⟨rfl, hm9, hl9, hk9⟩
  have HM9 := Lib.hid hm9
  have HL9 := Lib.hid hl9
  have HKW9 := Lib.hid (HKW8.out.trans (hk9.mono HWD.out))
  have HR9 := Lib.hid (hk9.blk HR8.out HRR.out)
  have hsz9 := hk9.size
  clear hm9 hl9 hk9 HM8 HL8 HQ8 HR8
  simp only [capV]
  go_wp2_with fail
  refine (list_any HM9.out w3.heap.size (f * 256 + U + 32 * ((la.length : Int) + 1) + 32 * ((lb.length : Int) + 1)) vc lc HL9.out HFL.out (HC.out _ HKW9.out) sc (by omega) HU.out (by omega) (by omega)).mono ?_
  rintro e w10 ⟨rfl, hm10, hl10, hk10⟩
  have HM10 := Lib.hid hm10
  have HL10 := Lib.hid hl10
  have HKW10 := Lib.hid (HKW9.out.trans (hk10.mono HWD.out))
  have HR10 := Lib.hid (hk10.blk HR9.out HRR.out)
  have hsz10 := hk10.size
  clear hm10 hl10 hk10 HM9 HL9 HR9
  simp only [capV]
  go_upto_region 14 with (refine wpList_store_row rfl 32 (.tmp 18) (.tmp 83) rfl w10.heap.size (startL zc (ofC (f * 256 + U) (32 * la.length) 9) (ofC (f * 256 + U + 32 * ((la.length : Int) + 1)) (32 * lb.length) 9) (ofC (f * 256 + U + 32 * ((la.length : Int) + 1) + 32 * ((lb.length : Int) + 1)) (32 * lc.length) 9)).toArray rfl rfl 32 _ (blk_new w10 _) (by kernel_rfl) rfl (oneStart _ _ _ _) ?_)
  generalize hA4 : f * 256 + U + 32 * ((la.length : Int) + 1) + 32 * ((lb.length : Int) + 1) + 32 * ((lc.length : Int) + 1) = A4 at HL10
  have hA40 : 0 ≤ A4 := by omega
  have hA41 : A4 + 64 ≤ (f + p) * 256 := by omega
  have HA4 := Lib.hid hA4
  clear hA4
  generalize hSL : (startL zc (ofC (f * 256 + U) (32 * la.length) 9) (ofC (f * 256 + U + 32 * ((la.length : Int) + 1)) (32 * lb.length) 9) (ofC (f * 256 + U + 32 * ((la.length : Int) + 1) + 32 * ((lb.length : Int) + 1)) (32 * lc.length) 9)) = SL
  have Z := Lib.hid (show SL.toArray[0]? = some (.int .u64 0) ∧ SL.toArray[1]? = some (.int .u64 0) ∧ SL.toArray[2]? = some (.int .u64 0) ∧ SL.toArray[3]? = some (.int .i64 0) ∧ SL.toArray[4]? = some (.int .i64 0) ∧ SL.toArray[5]? = some (.bool false) by rw [← hSL]; exact ⟨rfl, rfl, rfl, rfl, rfl, rfl⟩)
  have HSL := Lib.hid hSL
  clear hSL
  have hkA := ((Kept.refl Non w10).alloc (.cells #[.int .u64 0, .int .u64 0, .int .u64 0, .int .i64 0, .int .i64 0, .bool false, .int .u64 0, .int .u64 0, .int .u64 0, .int .i64 0, .int .i64 0, .bool false, .int .u64 0, .int .u64 0, .int .u64 0, .int .i64 0, .int .i64 0, .bool false, .int .u64 0, .int .u64 0, .int .u64 0, .int .i64 0, .int .i64 0, .bool false] 32)).setRow (g := w10.heap.size) (.inr (Nat.le_refl _)) SL.toArray
  have hbk := setRow_heap (w10.alloc (.cells #[.int .u64 0, .int .u64 0, .int .u64 0, .int .i64 0, .int .i64 0, .bool false, .int .u64 0, .int .u64 0, .int .u64 0, .int .i64 0, .int .i64 0, .bool false, .int .u64 0, .int .u64 0, .int .u64 0, .int .i64 0, .int .i64 0, .bool false, .int .u64 0, .int .u64 0, .int .u64 0, .int .i64 0, .int .i64 0, .bool false] 32)) w10.heap.size _ SL.toArray 32 (0, 0) (blk_new w10 _)
  generalize (w10.alloc (.cells #[.int .u64 0, .int .u64 0, .int .u64 0, .int .i64 0, .int .i64 0, .bool false, .int .u64 0, .int .u64 0, .int .u64 0, .int .i64 0, .int .i64 0, .bool false, .int .u64 0, .int .u64 0, .int .u64 0, .int .i64 0, .int .i64 0, .bool false, .int .u64 0, .int .u64 0, .int .u64 0, .int .i64 0, .int .i64 0, .bool false] 32)).setRow w10.heap.size SL.toArray = w11 at hkA hbk ⊢
  have HM11 := Lib.hid (HM10.out.kept0 hkA)
  have HL11 := Lib.hid (show LayAt w11 w3.heap.size m A4 from hkA.blk HL10.out (fun h => h))
  have HR11 := Lib.hid (hkA.blk HR10.out (fun h => h))
  have HKW11 := Lib.hid (HKW10.out.trans (hkA.mono (fun _ h => h.elim)))
  have HBK := Lib.hid hbk
  have hsz11 := hkA.size
  clear hkA hbk HM10 HL10 HR10 HKW10
  go_cut [] (fun wx => MemAt wx m (M.built f p la lb lc) F' ∧ wx.heap[w10.heap.size]? = some (.cells (startL (stackC f p la lb lc.length) (ofC (at1 f la lb) (32 * la.length) 9) (ofC (at2 f la lb) (32 * lb.length) 9) (ofC (at3 f la lb) (32 * lc.length) 9)).toArray 32 (0, 0)) ∧ (∃ cs, cs.size = 24 ∧ wx.heap[w.heap.size]? = some (.cells cs 32 (0, 0))) ∧ Kept (fun k => F k ∨ w.heap.size ≤ k) w wx)
  case first =>
    have d0 := cell_blk HL11.out 0
    have d1 := cell_blk HL11.out 1
    simp only [List.getElem?_toArray, List.getElem?_cons_zero, List.getElem?_cons_succ] at d0 d1
    have e1 : IntKind.u64.wrap ((f + p) * 256 - A4) = (f + p) * 256 - A4 := IntWalk.u64_in _ (by omega)
    have hof := fun w' => of_any' A4 ((f + p) * 256 - A4) 27 hA40 (by omega) (by omega) w' (by kernel_rfl)
    have hmv := fun w' => capmove_any (ofC A4 ((f + p) * 256 - A4) 27) ((f + p) * 256) w'
    simp only [capV] at hof hmv
    have HOF := Lib.hid hof
    have HMV := Lib.hid hmv
    clear hof hmv
    go_region_with (first | (go_at_call 49; refine (HOF.out _).mono ?_; rintro e w12 ⟨rfl, hk12⟩; have HK12 := Lib.hid hk12; clear hk12) | (go_at_call 48; refine (HMV.out _).mono ?_; rintro e w13 ⟨rfl, hk13⟩; have HB13 := Lib.hid (hk13.blk (HK12.out.blk HBK.out (fun h => h)) (fun h => h)); have HK13 := Lib.hid hk13; clear hk13; have c0 := (cell_blk HB13.out 0).trans Z.out.1; have c1 := (cell_blk HB13.out 1).trans Z.out.2.1; have c2 := (cell_blk HB13.out 2).trans Z.out.2.2.1; have c3 := (cell_blk HB13.out 3).trans Z.out.2.2.2.1; have c4 := (cell_blk HB13.out 4).trans Z.out.2.2.2.2.1; have c5 := (cell_blk HB13.out 5).trans Z.out.2.2.2.2.2; have g0 := free_blk HB13.out 0; have g1 := free_blk HB13.out 1; have g2 := free_blk HB13.out 2; have g3 := free_blk HB13.out 3; have g4 := free_blk HB13.out 4; have g5 := free_blk HB13.out 5))
    all_goals try go_wp2_with fail
    all_goals go_meet
    all_goals
      have hat : at4 f la lb lc.length = A4 := by simp only [at4, at3, at2, at1, hUU]; exact HA4.out
      have hv : (ofC A4 ((f + p) * 256 - A4) 27).move ((f + p) * 256) = stackC f p la lb lc.length := by
        simp only [ofC, Cap.move, Cap.openC, stackC, hat, Cap.mk.injEq]
        exact ⟨trivial, by omega, trivial, trivial, trivial, by simp⟩
      rw [hv]
      have hb13 := HB13.out
      have hM13 := (HM11.out.kept0 (((Kept.refl Non w11).drew).trans HK12.out)).kept0 HK13.out
      have hR13 := HK13.out.blk (HK12.out.blk HR11.out (fun h => h)) (fun h => h)
      have hKW13 := (HKW11.out.drew.trans (HK12.out.mono (G := fun k => F k ∨ w.heap.size ≤ k) (fun _ h => h.elim))).trans (HK13.out.mono (fun _ h => h.elim))
      have hlt10 : w10.heap.size ≠ w.heap.size := by have := lt_blk HB2.out; omega
      rw [← HSL.out] at hb13
      refine ⟨?_, ?_, ⟨#[.int .u64 0, .int .u64 0, .int .u64 0, .int .i64 0, .int .i64 0, .bool false, .int .u64 0, .int .u64 0, .int .u64 0, .int .i64 0, .int .i64 0, .bool false, .int .u64 0, .int .u64 0, .int .u64 0, .int .i64 0, .int .i64 0, .bool false, .int .u64 0, .int .u64 0, .int .u64 0, .int .i64 0, .int .i64 0, .bool false], rfl, ?_⟩, ?_⟩
      · have h1 : MemAt w13 m (M.built f p la lb lc) F' := by
          simp only [PM.built, at3, at2, at1, hUU, hM1]
          exact hM13
        exact h1.kept (G := fun x => x = w10.heap.size) ((Kept.refl (fun x => x = w10.heap.size) w13).set6 (.inl rfl) _ _ _ _ _ _) (fun x hx e => by have := HFLT.out x hx; omega)
      · have h1 := set6_start (s := stackC f p la lb lc.length) hb13
        simp only [at3, at2, at1, hUU] at h1 ⊢
        exact h1
      · exact Kept.blk (F := fun x => x = w10.heap.size) ((Kept.refl (fun x => x = w10.heap.size) w13).set6 (.inl rfl) _ _ _ _ _ _) hR13 (fun e => hlt10 e.symm)
      · exact hKW13.set6 (.inl (.inr (by omega))) _ _ _ _ _ _
  case rest =>
  obtain ⟨hm, hb18, ⟨cs0, hcs0, hbr⟩, hkw⟩ := hcut
  have HB18 := Lib.hid hb18
  have HBR := Lib.hid hbr
  have HMX := Lib.hid hm
  have HKX := Lib.hid hkw
  have HCS := Lib.hid hcs0
  clear hm hb18 hbr hkw hcs0
  go_wp2_with (first
    | (refine wpList_load_row rfl 32 (.tmp 18) rfl w10.heap.size rfl 32 (startL (stackC f p la lb lc.length) (ofC (at1 f la lb) (32 * la.length) 9) (ofC (at2 f la lb) (32 * lb.length) 9) (ofC (at3 f la lb) (32 * lc.length) 9)).toArray (0, 0) _ HB18.out Try.underlying32 rfl (by kernel_rfl) ?_)
    | (refine wpList_store_row rfl 32 (.tmp 12) (.tmp 103) rfl w.heap.size (startL (stackC f p la lb lc.length) (ofC (at1 f la lb) (32 * la.length) 9) (ofC (at2 f la lb) (32 * lb.length) 9) (ofC (at3 f la lb) (32 * lc.length) 9)).toArray rfl rfl 32 cs0 HBR.out (by kernel_rfl) (by rw [HCS.out]; rfl) (oneStart _ _ _ _) ?_))
  refine bodyPost_ret (v := .tuple #[startV (stackC f p la lb lc.length) (ofC (at1 f la lb) (32 * la.length) 9) (ofC (at2 f la lb) (32 * lb.length) 9) (ofC (at3 f la lb) (32 * lc.length) 9), .int .i64 0]) (results_cell_slot (fn := Try.f17) (p := 12) (q := 13) (ty := 32) (by kernel_rfl) _ _ w.heap.size _ (startL (stackC f p la lb lc.length) (ofC (at1 f la lb) (32 * la.length) 9) (ofC (at2 f la lb) (32 * lb.length) 9) (ofC (at3 f la lb) (32 * lc.length) 9)).toArray _ _ rfl (setRow_heap _ _ _ _ _ _ HBR.out) Try.underlying32 rfl (by kernel_rfl)) rfl ⟨rfl, F', ?_, ?_, ?_⟩
  · exact HMX.out.kept (G := fun x => x = w.heap.size) ((Kept.refl (fun x => x = w.heap.size) _).setRow (.inl rfl) _) (fun x hx e => HFR.out (e ▸ hx))
  · exact (HKX.out.tight).setRow (.inr (Nat.le_refl _)) _
  · intro b hb
    rcases HFN.out b hb with h | h
    · exact .inl h
    · exact .inr (by omega)
end

end Go.Proofs.Ytkmbmbpjppjdjaa
