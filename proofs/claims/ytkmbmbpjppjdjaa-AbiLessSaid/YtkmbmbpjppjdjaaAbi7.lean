/- Walks: what a program begins with is built. -/
import Derived.Test.YtkmbmbpjppjdjaaAbi6
import Derived.Laws.Tables
import Derived.Deep.MidRow
namespace Go.Proofs.Ytkmbmbpjppjdjaa
open Go.RowKit Go.Maps TmP
set_option linter.unusedSimpArgs false
set_option linter.unusedVariables false
set_option maxRecDepth 100000

namespace TmP
def at1 (f : Int) (la lb : List ByteArray) : Int := f * 256 + upZ (sizeL la + sizeL lb)
def at2 (f : Int) (la lb : List ByteArray) : Int := at1 f la lb + 32 * ((la.length : Int) + 1)
def at3 (f : Int) (la lb : List ByteArray) : Int := at2 f la lb + 32 * ((lb.length : Int) + 1)
def at4 (f : Int) (la lb : List ByteArray) (n : Nat) : Int := at3 f la lb + 32 * ((n : Int) + 1)
/-- Behind the pages are mapped: the texts, and the three lists. -/
def PM.built (M : PM) (f p : Int) (la lb : List ByteArray) (lc : List Cap) : PM :=
  (((((M.map f p).lay (f * 256) la).lay (f * 256 + sizeL la) lb).lst (at1 f la lb) (layC (f * 256) la ++ [Cap.int 0])).lst (at2 f la lb) (layC (f * 256 + sizeL la) lb ++ [Cap.int 0])).lst (at3 f la lb) (lc ++ [Cap.int 0])
def buildE (M : PM) (f p : Int) (la lb : List ByteArray) (lc : List Cap) : Int :=
  if rightB la lb lc = false then 1 else if needN la lb lc.length > p * 256 - 64 then 190 else M.mapE f p
def stackC (f p : Int) (la lb : List ByteArray) (n : Nat) : Cap := ⟨at4 f la lb n, (f + p) * 256, (f + p) * 256, 27, -1, true⟩
def zc : Cap := ⟨0, 0, 0, 0, 0, false⟩
end TmP

/-- What a program begins with, as a value. -/
def startL (s a e x : Cap) : List Value := capE s ++ capE a ++ capE e ++ capE x
def startV (s a e x : Cap) : Value := .agg (startL s a e x).toArray
theorem oneStart (s a e x : Cap) : (startL s a e x).toArray.all (·.oneCell') = true := all_oneCell_toArray fun v hv => by
  simp only [startL, List.mem_append] at hv
  rcases hv with ((hv | hv) | hv) | hv <;> exact one_capE _ v hv

theorem rightB_few {la lb : List ByteArray} {lc : List Cap} (h : rightB la lb lc = true) : la.length ≤ 8 ∧ lb.length ≤ 8 ∧ lc.length ≤ 8 ∧ (∀ x ∈ la, textB x = true) ∧ (∀ x ∈ lb, textB x = true) ∧ ∀ x ∈ lc, safeB x = true := by
  simp only [rightB, Bool.and_eq_true, decide_eq_true_eq, Bool.not_eq_true', List.any_eq_false, Bool.not_eq_true, Bool.not_eq_false'] at h
  obtain ⟨⟨⟨⟨⟨h1, h2⟩, h3⟩, h4⟩, h5⟩, h6⟩ := h
  exact ⟨by omega, by omega, by omega, fun x hx => by simpa using h4 x hx, fun x hx => by simpa using h5 x hx, fun x hx => by simpa using h6 x hx⟩
theorem textB_size {s : ByteArray} (h : textB s = true) : s.size ≤ 200 := by
  simp only [textB, decide_eq_true_eq] at h
  exact h.1
theorem sizeL_le : ∀ (l : List ByteArray), (∀ x ∈ l, textB x = true) → sizeL l ≤ 201 * l.length
  | [], _ => by simp [sizeL_nil]
  | s :: r, h => by
    have h1 := textB_size (h s (by simp))
    have h2 := sizeL_le r (fun x hx => h x (by simp [hx]))
    rw [sizeL_cons, List.length_cons]
    omega

theorem Kept.setRow {F : Nat → Prop} {w w' : World} {g : Nat} (h : Kept F w w') (hg : F g ∨ w.heap.size ≤ g) (cs : Array Value) : Kept F w (w'.setRow g cs) :=
  h.then_ (G := fun k => k = g) ⟨rfl, rfl, rfl, by simp, fun k _ hn => setRow_other _ _ _ _ hn⟩ (fun k hk => by rw [hk]; exact hg)

theorem results_cell_slot {P : Program} {fn : Func} {p q : Tmp} {ty : TypeId} (h : fn.results = #[.cell p ty, .tmp q]) (tmps : Array Value) (w : World) (g : Nat) (t : TypeId) (cs : Array Value) (fr : Nat × Nat) (d : TypeDesc)
    (hp : tmps.getD p undef = .pointer (some ⟨g, 0, none⟩)) (hg : w.heap[g]? = some (.cells cs t fr))
    (hu : P.underlying ty = some d) (hd : (match d with | .struct _ | .array _ _ => true | _ => false) = true) (hi : (P.info? ty).map (·.size) = some cs.size) :
    (results fn tmps).run P w = .ok (.tuple #[.agg cs, tmps.getD q undef]) w := by
  have hp' : tmps[p]?.getD undef = .pointer (some ⟨g, 0, none⟩) := by simpa using hp
  simp [results, h, hp', asAddr, run_loadVar_row w g t ty cs fr d hg hu hd hi]

section
variable {Ga Gb Gc : Nat → Prop}
theorem build_bad1 (m : Value) (f p : Int) (va vb vc : Value) (la lb : List ByteArray) (lc : List Cap) (w : World)
    (ha : SeqAt strE 1 w va la Ga) (hb : SeqAt strE 1 w vb lb Gb) (hc : SeqAt capE 6 w vc lc Gc)
    (hna : la.length ≤ 1152921504606846976) (hnb : lb.length ≤ 1152921504606846976) (hnc : lc.length ≤ 1152921504606846976)
    (hsa : ∀ x ∈ la, x.size ≤ 140737488355328) (hsb : ∀ x ∈ lb, x.size ≤ 140737488355328) (hR : rightB la lb lc = false) :
    Calls Try.prog 17 #[m, .int .u64 f, .int .i64 p, va, vb, vc] w fun e w' => e = .returned (.tuple #[startV zc zc zc zc, .int .i64 1]) ∧ Kept Non w w' := by
  have h1 := fun w' (hk : Kept Non w w') => right_any va vb vc la lb lc w' (ha.kept0 hk) (hb.kept0 hk) (hc.kept0 hk) hna hnb hnc hsa hsb
  simp only [hR] at h1
  have H1 := Lib.hid h1
  clear h1 ha hb hc
  go_enter Try.func17, Try.ntmps17
  go_wp2_with (first
    | (go_at_call 44; refine (H1.out _ ((Kept.refl _ _).alloc _)).mono ?_; rintro e w1 ⟨rfl, hk⟩; have HK := Lib.hid (((Kept.refl _ _).alloc _).trans hk); have HB := Lib.hid (hk.blk (blk_new w _) (fun h => h)); clear hk)
    | (refine wpList_store_row rfl 32 (.tmp 12) (.tmp 25) rfl w.heap.size (startL zc zc zc zc).toArray rfl rfl 32 _ HB.out (by kernel_rfl) rfl (oneStart _ _ _ _) ?_))
  refine bodyPost_ret (v := .tuple #[startV zc zc zc zc, .int .i64 1]) (results_cell_slot (fn := Try.f17) (p := 12) (q := 13) (ty := 32) (by kernel_rfl) _ _ w.heap.size _ (startL zc zc zc zc).toArray _ _ rfl (setRow_heap _ _ _ _ _ _ HB.out) Try.underlying32 rfl (by kernel_rfl)) rfl ⟨rfl, HK.out.setRow (.inr (Nat.le_refl _)) _⟩

theorem build_bad2 (m : Value) (f p : Int) (va vb vc : Value) (la lb : List ByteArray) (lc : List Cap) (w : World)
    (ha : SeqAt strE 1 w va la Ga) (hb : SeqAt strE 1 w vb lb Gb) (hc : SeqAt capE 6 w vc lc Gc) (sa : Slc va) (sb : Slc vb)
    (hsa : ∀ x ∈ la, x.size ≤ 140737488355328) (hsb : ∀ x ∈ lb, x.size ≤ 140737488355328) (hp0 : -1000 ≤ p) (hp1 : p ≤ 1000) (hR : rightB la lb lc = true) (hN : needN la lb lc.length > p * 256 - 64) :
    Calls Try.prog 17 #[m, .int .u64 f, .int .i64 p, va, vb, vc] w fun e w' => e = .returned (.tuple #[startV zc zc zc zc, .int .i64 190]) ∧ Kept Non w w' := by
  obtain ⟨hla, hlb, hlc, hta, htb, _⟩ := rightB_few hR
  have hza := sizeL_le la hta
  have hzb := sizeL_le lb htb
  have h1 := fun w' (hk : Kept Non w w') => right_any va vb vc la lb lc w' (ha.kept0 hk) (hb.kept0 hk) (hc.kept0 hk) (by omega) (by omega) (by omega) hsa hsb
  have h2 := fun w' (hk : Kept Non w w') => need_any va vb vc la lb lc.length w' (ha.kept0 hk) (hb.kept0 hk) sa sb (by omega) (by omega) (by omega) (by rw [sizeL_append]; omega) (by obtain ⟨ao, c, h, _⟩ := hc; exact ⟨ao, c, h⟩)
  simp only [hR] at h1
  have hd1 : p ≤ 65536 := by omega
  have H1 := Lib.hid h1
  have H2 := Lib.hid h2
  clear h1 h2 ha hb hc hR
  generalize needN la lb lc.length = N at H2 hN
  go_enter Try.func17, Try.ntmps17
  go_wp2_with (first
    | (go_at_call 44; refine (H1.out _ ((Kept.refl _ _).alloc _)).mono ?_; rintro e w1 ⟨rfl, hk⟩; have HK := Lib.hid (((Kept.refl _ _).alloc _).trans hk); have HB := Lib.hid (hk.blk (blk_new w _) (fun h => h)); clear hk)
    | (go_at_call 20; refine (H2.out _ HK.out).mono ?_; rintro e w2 ⟨rfl, hk⟩; have HK2 := Lib.hid (HK.out.trans hk); have HB2 := Lib.hid (hk.blk HB.out (fun h => h)); clear hk)
    | (refine wpList_store_row rfl 32 (.tmp 12) (.tmp 38) rfl w.heap.size (startL zc zc zc zc).toArray rfl rfl 32 _ HB2.out (by kernel_rfl) rfl (oneStart _ _ _ _) ?_))
  refine bodyPost_ret (v := .tuple #[startV zc zc zc zc, .int .i64 190]) (results_cell_slot (fn := Try.f17) (p := 12) (q := 13) (ty := 32) (by kernel_rfl) _ _ w.heap.size _ (startL zc zc zc zc).toArray _ _ rfl (setRow_heap _ _ _ _ _ _ HB2.out) Try.underlying32 rfl (by kernel_rfl)) rfl ⟨rfl, HK2.out.setRow (.inr (Nat.le_refl _)) _⟩

theorem build_bad3 {F : Nat → Prop} {M : PM} (m : Nat) (f p : Int) (va vb vc : Value) (la lb : List ByteArray) (lc : List Cap) (w : World) (h : MemAt w m M F)
    (ha : SeqAt strE 1 w va la Ga) (hb : SeqAt strE 1 w vb lb Gb) (hc : SeqAt capE 6 w vc lc Gc) (sa : Slc va) (sb : Slc vb)
    (hsa : ∀ x ∈ la, x.size ≤ 140737488355328) (hsb : ∀ x ∈ lb, x.size ≤ 140737488355328) (hf0 : 0 ≤ f) (hf1 : f < 18446744073709551616) (hp0 : -1000 ≤ p) (hp1 : p ≤ 1000) (hR : rightB la lb lc = true) (hN : ¬ needN la lb lc.length > p * 256 - 64) (hE : M.mapE f p ≠ 0) :
    Calls Try.prog 17 #[.pointer (some ⟨m, 0, none⟩), .int .u64 f, .int .i64 p, va, vb, vc] w (Does w m F (.tuple #[startV zc zc zc zc, .int .i64 (M.mapE f p)]) M) := by
  obtain ⟨hla, hlb, hlc, hta, htb, _⟩ := rightB_few hR
  have hza := sizeL_le la hta
  have hzb := sizeL_le lb htb
  have h1 := fun w' (hk : Kept Non w w') => right_any va vb vc la lb lc w' (ha.kept0 hk) (hb.kept0 hk) (hc.kept0 hk) (by omega) (by omega) (by omega) hsa hsb
  have h2 := fun w' (hk : Kept Non w w') => need_any va vb vc la lb lc.length w' (ha.kept0 hk) (hb.kept0 hk) sa sb (by omega) (by omega) (by omega) (by rw [sizeL_append]; omega) (by obtain ⟨ao, c, h, _⟩ := hc; exact ⟨ao, c, h⟩)
  have h3 := fun w' (hk : Kept Non w w') => map_any (h.kept0 hk) f p hf0 hf1
  simp only [hR] at h1
  rw [map_same hE] at h3
  have hne : (M.mapE f p != 0) = true := by simpa using hE
  have hd1 : p ≤ 65536 := by omega
  have H := Lib.hid h
  have H1 := Lib.hid h1
  have H2 := Lib.hid h2
  have H3 := Lib.hid h3
  clear h1 h2 h3 h ha hb hc hR hE
  generalize needN la lb lc.length = N at H2 hN
  generalize M.mapE f p = E at H3 hne ⊢
  go_enter Try.func17, Try.ntmps17
  go_wp2_with (first
    | (go_at_call 44; refine (H1.out _ ((Kept.refl _ _).alloc _)).mono ?_; rintro e w1 ⟨rfl, hk⟩; have HK := Lib.hid (((Kept.refl _ _).alloc _).trans hk); have HB := Lib.hid (hk.blk (blk_new w _) (fun h => h)); clear hk)
    | (go_at_call 20; refine (H2.out _ HK.out).mono ?_; rintro e w2 ⟨rfl, hk⟩; have HK2 := Lib.hid (HK.out.trans hk); have HB2 := Lib.hid (hk.blk HB.out (fun h => h)); clear hk)
    | (go_at_call 34; refine (H3.out _ HK2.out).mono ?_; rintro e w3 ⟨rfl, F', hm, hk, hF⟩; have HM := Lib.hid hm; have HK3 := Lib.hid hk; have HF := Lib.hid hF; have HB3 := Lib.hid (hk.blk HB2.out (fun h => absurd (H.out.lt _ h) (by omega))); clear hk hm hF)
    | (refine wpList_store_row rfl 32 (.tmp 12) (.tmp 45) rfl w.heap.size (startL zc zc zc zc).toArray rfl rfl 32 _ HB3.out (by kernel_rfl) rfl (oneStart _ _ _ _) ?_))
  have hsz := HK2.out.size
  have hlt3 := lt_blk HB2.out
  refine bodyPost_ret (v := .tuple #[startV zc zc zc zc, .int .i64 E]) (results_cell_slot (fn := Try.f17) (p := 12) (q := 13) (ty := 32) (by kernel_rfl) _ _ w.heap.size _ (startL zc zc zc zc).toArray _ _ rfl (setRow_heap _ _ _ _ _ _ HB3.out) Try.underlying32 rfl (by kernel_rfl)) rfl ⟨rfl, F', ?_, ?_, ?_⟩
  · refine HM.out.kept (G := fun x => x = w.heap.size) ((Kept.refl (fun x => x = w.heap.size) _).setRow (.inl rfl) _) (fun x hx e => ?_)
    rcases HF.out x hx with h | h
    · have := H.out.lt x h; omega
    · omega
  · exact ((HK2.out.mono (fun _ h => h.elim)).trans HK3.out).setRow (.inr (Nat.le_refl _)) _
  · intro b hb
    rcases HF.out b hb with h | h
    · exact .inl h
    · exact .inr (by omega)
end

end Go.Proofs.Ytkmbmbpjppjdjaa
