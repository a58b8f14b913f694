/- Plain: what a memory that has been built tells. No program is walked here. -/
import Derived.Test.YtkmbmbpjppjdjaaTold
namespace Go.Proofs.Ytkmbmbpjppjdjaa
open Go.RowKit Go.Maps TmP
set_option linter.unusedSimpArgs false
set_option linter.unusedVariables false
set_option maxRecDepth 100000

namespace TmP
theorem take_mid {α : Type} (l : List α) (k : Nat) (h : k < l.length) : l.take k ++ l[k] :: l.drop (k + 1) = l := by
  rw [List.getElem_cons_drop, List.take_append_drop]

theorem map_inn {M : PM} {f p : Int} (hE : M.mapE f p = 0) (h0 : 0 ≤ f) : Inn (M.map f p).keys (f * 256) ((f + p) * 256) ∧ 1 ≤ p ∧ f + p ≤ 65536 := by
  have hs : someB f p = true := by
    by_cases h : someB f p = true
    · exact h
    · have : M.mapE f p = 1 := mapE_1 (by simpa using h)
      omega
  simp only [someB, decide_eq_true_eq] at hs
  refine ⟨⟨by omega, fun x h1 h2 => ?_⟩, by omega, by omega⟩
  rw [map_grow hE]
  show x / 256 ∈ insAll f p.toNat M.keys
  exact mem_insAll.2 (.inl ⟨by omega, by omega⟩)

theorem layC_at : ∀ (l : List ByteArray) (a : Int) (k : Nat) (h : k < l.length) (h' : k < (layC a l).length), (layC a l)[k] = ofC (a + sizeL (l.take k)) ((l[k]).size + 1) 1
  | [], _, k, h, _ => by simp at h
  | s :: r, a, 0, _, _ => by simp [layC, sizeL_nil]
  | s :: r, a, k + 1, h, h' => by
    simp only [layC, List.getElem_cons_succ, List.take_succ_cons, sizeL_cons]
    rw [layC_at r (a + (s.size + 1)) k (by simpa using h)]
    congr 1
    omega

theorem null_ok : (Cap.int 0).Ok := by
  refine ⟨⟨⟨?_, ?_⟩, ⟨?_, ?_⟩, ⟨?_, ?_⟩⟩, ⟨?_, ?_⟩, ⟨?_, ?_⟩⟩ <;> simp [Cap.int]

/-- A capability of a list, behind all that has been laid further on. -/
theorem lst_at {M : PM} {lo hi a : Int} (L : List Cap) (h : Inn M.keys lo hi) (h1 : lo ≤ a) (h2 : a + 32 * (L.length : Int) ≤ hi) (h3 : a % 32 = 0) (hok : ∀ c ∈ L, c.Ok) (k : Nat) (hk : k < L.length) :
    (M.lst a L).capAt (a + 32 * (k : Int)) = L[k] := by
  have e := take_mid L k hk
  have hl : (L.take k).length = k := by rw [List.length_take]; omega
  have := lst_cap (L.take k) L[k] (L.drop (k + 1)) h h1 (by rw [e]; exact h2) h3 (hok _ (List.getElem_mem hk))
  rw [e, hl] at this
  exact this

theorem lay_at {M : PM} {lo hi a : Int} (l : List ByteArray) (h : Inn M.keys lo hi) (h1 : lo ≤ a) (h2 : a + sizeL l ≤ hi) (k : Nat) (hk : k < l.length) :
    (M.lay a l).get (a + sizeL (l.take k)) ((l[k]).size + 1) = bsI l[k] ++ [0] := by
  have e := take_mid l k hk
  have := lay_get (l.take k) l[k] (l.drop (k + 1)) h h1 (by rw [e]; exact h2)
  rw [e] at this
  exact this

theorem sizeL_at (l : List ByteArray) (k : Nat) (hk : k < l.length) : 0 ≤ sizeL (l.take k) ∧ sizeL (l.take k) + ((l[k]).size + 1) ≤ sizeL l := by
  have h1 := sizeL_succ l k hk
  have h2 := sizeL_take l (k + 1)
  have h3 := sizeL_nonneg (l.take k)
  exact ⟨h3, by omega⟩

theorem bytes_get {M : PM} {lo hi a : Int} {n : Nat} (h : Inn M.keys lo hi) (h1 : lo ≤ a) (h2 : a + n ≤ hi) (hn : 1 ≤ n) (hn2 : n ≤ 65536) : M.bytes a (n : Int) = M.get a n := by
  unfold PM.bytes
  have hm := h.mapped (n := n) h1 h2
  rw [if_neg]
  · simp
  · rintro (h | h | h)
    · omega
    · omega
    · rw [Int.toNat_natCast, hm] at h; cases h

/-- The numbers of what is built. -/
structure Fits (f p : Int) (la lb : List ByteArray) (n : Nat) : Prop where
  f0 : 0 ≤ f
  sa : 0 ≤ sizeL la
  sb : 0 ≤ sizeL lb
  u : f * 256 + sizeL la + sizeL lb ≤ at1 f la lb
  m : at1 f la lb % 32 = 0
  e : at4 f la lb n + 64 ≤ (f + p) * 256
  t : (f + p) * 256 ≤ 16777216

theorem fits_of {M : PM} {f p : Int} {la lb : List ByteArray} {lc : List Cap} (hE : buildE M f p la lb lc = 0) (h0 : 0 ≤ f) : rightB la lb lc = true ∧ M.mapE f p = 0 ∧ Fits f p la lb lc.length := by
  unfold buildE at hE
  split at hE
  · omega
  · rename_i hR
    split at hE
    · omega
    · rename_i hN
      have hR : rightB la lb lc = true := by simpa using hR
      refine ⟨hR, hE, h0, sizeL_nonneg _, sizeL_nonneg _, ?_, ?_, ?_, ?_⟩
      · unfold at1 upZ; omega
      · unfold at1 upZ; omega
      · unfold needN at hN
        rw [sizeL_append] at hN
        unfold at4 at3 at2 at1
        omega
      · have := (map_inn hE h0).2; omega

theorem built_keys (M : PM) (f p : Int) (la lb : List ByteArray) (lc : List Cap) : (M.built f p la lb lc).keys = (M.map f p).keys := by
  unfold PM.built
  rw [lst_keys, lst_keys, lst_keys, lay_keys, lay_keys]
end TmP

theorem tells_args {M : PM} {f p : Int} {la lb : List ByteArray} {lc : List Cap} (hE : buildE M f p la lb lc = 0) (h0 : 0 ≤ f) : Tells (M.built f p la lb lc) (at1 f la lb) la (fun k => f * 256 + sizeL (la.take k)) := by
  obtain ⟨hR, hM, F⟩ := fits_of hE h0
  obtain ⟨hla, hlb, hlc, hta, htb, _⟩ := rightB_few hR
  obtain ⟨hI, hp1, hp2⟩ := map_inn hM h0
  have hK := built_keys M f p la lb lc
  have hI5 : Inn (M.built f p la lb lc).keys (f * 256) ((f + p) * 256) := by rw [hK]; exact hI
  obtain ⟨_, hsa, hsb, hu, hm, he, ht⟩ := F
  have e2 : at2 f la lb = at1 f la lb + 32 * ((la.length : Int) + 1) := rfl
  have e3 : at3 f la lb = at2 f la lb + 32 * ((lb.length : Int) + 1) := rfl
  have e4 : at4 f la lb lc.length = at3 f la lb + 32 * ((lc.length : Int) + 1) := rfl
  have hL := layC_length la (f * 256)
  have hLb := layC_length lb (f * 256 + sizeL la)
  have hok : ∀ c ∈ layC (f * 256) la ++ [Cap.int 0], c.Ok := fun c hc => by
    rcases List.mem_append.1 hc with hc | hc
    · exact layC_ok la _ (by omega) (by omega) c hc
    · simp at hc; subst hc; exact null_ok
  have hLL : (layC (f * 256) la ++ [Cap.int 0]).length = la.length + 1 := by simp [hL]
  have hLLb : (layC (f * 256 + sizeL la) lb ++ [Cap.int 0]).length = lb.length + 1 := by simp [hLb]
  have hcap : ∀ k (hk : k < (layC (f * 256) la ++ [Cap.int 0]).length), (M.built f p la lb lc).capAt (at1 f la lb + 32 * (k : Int)) = (layC (f * 256) la ++ [Cap.int 0])[k] := fun k hk => by
    rw [← lst_at (M := ((M.map f p).lay (f * 256) la).lay (f * 256 + sizeL la) lb) (lo := f * 256) (hi := (f + p) * 256) (a := at1 f la lb) _ (by rw [lay_keys, lay_keys]; exact hI) (by omega) (by rw [hLL]; omega) hm hok k hk]
    rw [hLL] at hk
    unfold PM.built
    refine capAt_congr (fun x h1 h2 => ?_) ?_
    · rw [lst_out _ _ _ _ (by omega), lst_out _ _ _ _ (by omega)]
    · rw [lst_tout _ _ _ _ (by omega), lst_tout _ _ _ _ (by omega)]
  have hg : ∀ k : Nat, k ≤ la.length → granE (M.built f p la lb lc).keys (at1 f la lb + 32 * (k : Int)) = 0 := fun k hk => hI5.gran (by omega) (by omega) (by omega)
  refine ⟨by omega, by omega, fun k h => textB_size (hta _ (List.getElem_mem h)), fun k h => ?_, fun k h => ?_, fun k h => hg k (by omega), fun k h => ?_, fun k h => ?_, hg _ (Nat.le_refl _), ?_⟩
  · have := sizeL_at la k h; omega
  · have := sizeL_at la k h; omega
  · unfold PM.loadCap
    rw [if_pos (hg k (by omega)), hcap k (by omega), List.getElem_append_left (by omega), layC_at la (f * 256) k h]
  · have hs := sizeL_at la k h
    have hz := textB_size (hta _ (List.getElem_mem h))
    have := bytes_get (n := (la[k]).size + 1) hI5 (a := f * 256 + sizeL (la.take k)) (by omega) (by omega) (by omega) (by omega)
    rw [show (((la[k]).size + 1 : Nat) : Int) = ((la[k]).size : Int) + 1 by omega] at this
    rw [this, ← lay_at (a := f * 256) la hI (by omega) (by omega) k h]
    refine get_congr _ _ (fun x h1 h2 => ?_)
    unfold PM.built
    rw [lst_out _ _ _ _ (by omega), lst_out _ _ _ _ (by omega), lst_out _ _ _ _ (by omega), lay_out _ _ _ _ (by omega)]
  · unfold PM.loadCap
    rw [if_pos (hg _ (Nat.le_refl _)), hcap la.length (by omega), List.getElem_append_right (by omega)]
    simp [hL, Cap.int]

theorem tells_env {M : PM} {f p : Int} {la lb : List ByteArray} {lc : List Cap} (hE : buildE M f p la lb lc = 0) (h0 : 0 ≤ f) : Tells (M.built f p la lb lc) (at2 f la lb) lb (fun k => f * 256 + sizeL la + sizeL (lb.take k)) := by
  obtain ⟨hR, hM, F⟩ := fits_of hE h0
  obtain ⟨hla, hlb, hlc, hta, htb, _⟩ := rightB_few hR
  obtain ⟨hI, hp1, hp2⟩ := map_inn hM h0
  have hK := built_keys M f p la lb lc
  have hI5 : Inn (M.built f p la lb lc).keys (f * 256) ((f + p) * 256) := by rw [hK]; exact hI
  obtain ⟨_, hsa, hsb, hu, hm, he, ht⟩ := F
  have e2 : at2 f la lb = at1 f la lb + 32 * ((la.length : Int) + 1) := rfl
  have e3 : at3 f la lb = at2 f la lb + 32 * ((lb.length : Int) + 1) := rfl
  have e4 : at4 f la lb lc.length = at3 f la lb + 32 * ((lc.length : Int) + 1) := rfl
  have hL := layC_length lb (f * 256 + sizeL la)
  have hok : ∀ c ∈ layC (f * 256 + sizeL la) lb ++ [Cap.int 0], c.Ok := fun c hc => by
    rcases List.mem_append.1 hc with hc | hc
    · exact layC_ok lb _ (by omega) (by omega) c hc
    · simp at hc; subst hc; exact null_ok
  have hLL : (layC (f * 256 + sizeL la) lb ++ [Cap.int 0]).length = lb.length + 1 := by simp [hL]
  have hcap : ∀ k (hk : k < (layC (f * 256 + sizeL la) lb ++ [Cap.int 0]).length), (M.built f p la lb lc).capAt (at2 f la lb + 32 * (k : Int)) = (layC (f * 256 + sizeL la) lb ++ [Cap.int 0])[k] := fun k hk => by
    rw [← lst_at (M := (((M.map f p).lay (f * 256) la).lay (f * 256 + sizeL la) lb).lst (at1 f la lb) (layC (f * 256) la ++ [Cap.int 0])) (lo := f * 256) (hi := (f + p) * 256) (a := at2 f la lb) _ (by rw [lst_keys, lay_keys, lay_keys]; exact hI) (by omega) (by rw [hLL]; omega) (by omega) hok k hk]
    rw [hLL] at hk
    unfold PM.built
    refine capAt_congr (fun x h1 h2 => ?_) ?_
    · rw [lst_out _ _ _ _ (by omega)]
    · rw [lst_tout _ _ _ _ (by omega)]
  have hg : ∀ k : Nat, k ≤ lb.length → granE (M.built f p la lb lc).keys (at2 f la lb + 32 * (k : Int)) = 0 := fun k hk => hI5.gran (by omega) (by omega) (by omega)
  refine ⟨by omega, by omega, fun k h => textB_size (htb _ (List.getElem_mem h)), fun k h => ?_, fun k h => ?_, fun k h => hg k (by omega), fun k h => ?_, fun k h => ?_, hg _ (Nat.le_refl _), ?_⟩
  · have := sizeL_at lb k h; omega
  · have := sizeL_at lb k h; omega
  · unfold PM.loadCap
    rw [if_pos (hg k (by omega)), hcap k (by omega), List.getElem_append_left (by omega), layC_at lb (f * 256 + sizeL la) k h]
  · have hs := sizeL_at lb k h
    have hz := textB_size (htb _ (List.getElem_mem h))
    have := bytes_get (n := (lb[k]).size + 1) hI5 (a := f * 256 + sizeL la + sizeL (lb.take k)) (by omega) (by omega) (by omega) (by omega)
    rw [show (((lb[k]).size + 1 : Nat) : Int) = ((lb[k]).size : Int) + 1 by omega] at this
    rw [this, ← lay_at (M := (M.map f p).lay (f * 256) la) (lo := f * 256) (hi := (f + p) * 256) (a := f * 256 + sizeL la) lb (by rw [lay_keys]; exact hI) (by omega) (by omega) k h]
    refine get_congr _ _ (fun x h1 h2 => ?_)
    unfold PM.built
    rw [lst_out _ _ _ _ (by omega), lst_out _ _ _ _ (by omega), lst_out _ _ _ _ (by omega)]
  · unfold PM.loadCap
    rw [if_pos (hg _ (Nat.le_refl _)), hcap lb.length (by omega), List.getElem_append_right (by omega)]
    simp [hL, Cap.int]

theorem tells_none {M : PM} {f p : Int} {la lb : List ByteArray} (hE : buildE M f p la lb [] = 0) (h0 : 0 ≤ f) : Tells (M.built f p la lb []) (at3 f la lb) [] (fun _ => 0) := by
  obtain ⟨hR, hM, F⟩ := fits_of hE h0
  obtain ⟨hla, hlb, hlc, hta, htb, _⟩ := rightB_few hR
  obtain ⟨hI, hp1, hp2⟩ := map_inn hM h0
  have hK := built_keys M f p la lb []
  have hI5 : Inn (M.built f p la lb []).keys (f * 256) ((f + p) * 256) := by rw [hK]; exact hI
  obtain ⟨_, hsa, hsb, hu, hm, he, ht⟩ := F
  have e2 : at2 f la lb = at1 f la lb + 32 * ((la.length : Int) + 1) := rfl
  have e3 : at3 f la lb = at2 f la lb + 32 * ((lb.length : Int) + 1) := rfl
  have e4 : at4 f la lb ([] : List Cap).length = at3 f la lb + 32 * ((([] : List Cap).length : Int) + 1) := rfl
  simp only [List.length_nil] at e4 he
  have hg : granE (M.built f p la lb []).keys (at3 f la lb) = 0 := hI5.gran (by omega) (by omega) (by omega)
  have hc : (M.built f p la lb []).capAt (at3 f la lb + 32 * ((0 : Nat) : Int)) = ([] ++ [Cap.int 0])[0] := by
    unfold PM.built
    exact lst_at (lo := f * 256) (hi := (f + p) * 256) ([] ++ [Cap.int 0]) (by rw [lst_keys, lst_keys, lay_keys, lay_keys]; exact hI) (by omega) (by simp; omega) (by omega) (fun c hc => by simp at hc; subst hc; exact null_ok) 0 (by simp)
  have e0 : at3 f la lb + 32 * ((([] : List ByteArray).length : Nat) : Int) = at3 f la lb := by simp
  refine ⟨by omega, by rw [e0]; omega, fun k h => by simp at h, fun k h => by simp at h, fun k h => by simp at h, fun k h => by simp at h, fun k h => by simp at h, fun k h => by simp at h, by rw [e0]; exact hg, ?_⟩
  rw [e0]
  unfold PM.loadCap
  rw [if_pos hg]
  rw [show at3 f la lb + 32 * ((0 : Nat) : Int) = at3 f la lb by omega] at hc
  rw [hc]
  simp [Cap.int]

end Go.Proofs.Ytkmbmbpjppjdjaa
