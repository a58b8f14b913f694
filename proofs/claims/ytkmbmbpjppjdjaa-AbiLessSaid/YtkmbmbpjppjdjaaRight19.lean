/- Walks: the document's answer on texts (layer 19's 'Right'). -/
import Derived.Test.YtkmbmbpjppjdjaaAwk
namespace Go.Proofs.Ytkmbmbpjppjdjaa
open Go.RowKit Go.Maps TmP
set_option linter.unusedSimpArgs false
set_option linter.unusedVariables false
set_option maxRecDepth 100000

theorem reftexts_any {G : Nat → Prop} (v : Value) (l : List ByteArray) (w : World) (hv : SeqAt strE 1 w v l G) (hn : l.length ≤ 1152921504606846976) (hs : ∀ x ∈ l, x.size ≤ 140737488355328) :
    Calls Try.prog 50 #[v] w fun e w' => e = .returned (.bool (l.all textB && decide ((l.length : Int) ≤ 8))) ∧ w = w' := by
  obtain ⟨ao, cap, rfl, hcap, hq⟩ := hv
  have HQ := Lib.hid hq
  have HS := Lib.hid hs
  clear hq hs
  have hbad : ∀ k (h : k < l.length), textB l[k] = false → (l.all textB && decide ((l.length : Int) ≤ 8)) = false := fun k h hb => by
    have : l.all textB = false := List.all_eq_false.2 ⟨l[k], List.getElem_mem h, by simp [hb]⟩
    rw [this]; rfl
  have hgood : (∀ j (h : j < l.length), textB l[j] = true) → (l.all textB && decide ((l.length : Int) ≤ 8)) = decide ((l.length : Int) ≤ 8) := fun h => by
    have : l.all textB = true := List.all_eq_true.2 (fun x hx => by obtain ⟨i, hi, rfl⟩ := List.getElem_of_mem hx; exact h i hi)
    rw [this]; rfl
  generalize (l.all textB && decide ((l.length : Int) ≤ 8)) = R at hbad hgood ⊢
  have HBAD := Lib.hid hbad
  have HGOOD := Lib.hid hgood
  clear hbad hgood
  go_enter Try.func50, Try.ntmps50
  go_wp2
  go_loop [3, 4] (fun i _ => ∃ k : Nat, k ≤ l.length ∧ i = .int .i64 k ∧ ∀ j (h : j < l.length), j < k → textB l[j] = true) (fun i _ => l.length - (intOf i).toNat)
  case atStart => exact ⟨0, Nat.zero_le _, rfl, fun j _ h => by omega⟩
  case round =>
    obtain ⟨k, hk, rfl, hT⟩ := hrel
    have HT := Lib.hid hT
    clear hT
    by_cases hlt : k < l.length
    · obtain ⟨g, off, rfl, hc⟩ : ∃ g off, ao = some ⟨g, off, none⟩ ∧ w.cell? ⟨g, off + k, none⟩ = some (.string l[k]) := by
        rcases HQ.out with h | ⟨g, off, h1, _, _, h4⟩
        · subst h; simp at hlt
        · exact ⟨g, off, h1, by simpa using h4 k l[k] (List.getElem?_eq_getElem hlt) 0 _ rfl⟩
      have hsz := HS.out l[k] (List.getElem_mem hlt)
      generalize hx : l[k] = x at hc hsz
      have HX := Lib.hid hx
      clear hx
      by_cases h200 : (x.size : Int) ≤ 200
      · go_wp2
        go_loop [4] (fun t => ∃ q : Nat, q ≤ x.size ∧ t = .int .i64 q ∧ ∀ j (h : j < x.size), j < q → (x[j]'h).toNat ≠ 0) (fun t => x.size - (intOf t).toNat)
        case atStart => exact ⟨0, Nat.zero_le _, rfl, fun j _ h => by omega⟩
        case round =>
          obtain ⟨q, hqq, rfl, hZ⟩ := hrel
          have HZ := Lib.hid hZ
          clear hZ
          by_cases hql : q < x.size
          · by_cases h0 : (x[q]'hql).toNat = 0
            · have HE := Lib.hid (HBAD.out k hlt (by
                rw [HX.out]
                simp only [textB, decide_eq_false_iff_not]
                exact fun hh => hh.2 q hql h0))
              have hd : (((x[q]'hql).toNat : Int) == 0) = true := by simp [h0]
              clear h0
              go_wp2
              go_ret
              exact ⟨ret_bool HE.out.symm, rfl⟩
            · have hd : (((x[q]'hql).toNat : Int) == 0) = false := by simpa using h0
              have H0 := Lib.hid h0
              clear h0
              go_wp2
              go_round
              case rel => exact ⟨q + 1, by omega, by go_num, fun j h hj => by
                by_cases e : j = q
                · subst e; exact H0.out
                · exact HZ.out j h (by omega)⟩
              case measure => simp [intOf]; omega
          · go_wp2
            exact ⟨⟨k + 1, by omega, by go_num, fun j h hj => by
              by_cases e : j = k
              · subst e
                rw [HX.out]
                simp only [textB, decide_eq_true_eq]
                exact ⟨by omega, fun i hi => HZ.out i hi (by omega)⟩
              · exact HT.out j h (by omega)⟩, by simp [intOf]; omega⟩
      · have HE := Lib.hid (HBAD.out k hlt (by
          rw [HX.out]
          simp only [textB, decide_eq_false_iff_not]
          exact fun hh => by have := hh.1; omega))
        go_wp2
        go_ret
        exact ⟨ret_bool HE.out.symm, rfl⟩
    · have HE := Lib.hid (HGOOD.out (fun j h => HT.out j h (by omega)))
      go_wp2
      go_ret
      exact ⟨ret_bool HE.out.symm, rfl⟩

theorem right_split (la lb : List ByteArray) : rightB la lb [] = ((la.all textB && decide ((la.length : Int) ≤ 8)) && (lb.all textB && decide ((lb.length : Int) ≤ 8))) := by
  have h : ∀ l : List ByteArray, (!(l.any fun x => !textB x)) = l.all textB := fun l => by
    induction l with
    | nil => rfl
    | cons x r ih => simp only [List.any_cons, List.all_cons, Bool.not_or, Bool.not_not, ih]
  unfold rightB
  rw [h la, h lb]
  have h8 : decide (((([] : List Cap)).length : Int) ≤ 8) = true := by decide
  rw [h8]
  cases la.all textB <;> cases lb.all textB <;> simp

theorem refright0_any {Ga Gb : Nat → Prop} (va vb : Value) (la lb : List ByteArray) (w : World) (ha : SeqAt strE 1 w va la Ga) (hb : SeqAt strE 1 w vb lb Gb)
    (hna : la.length ≤ 1152921504606846976) (hnb : lb.length ≤ 1152921504606846976) (hsa : ∀ x ∈ la, x.size ≤ 140737488355328) (hsb : ∀ x ∈ lb, x.size ≤ 140737488355328) :
    Calls Try.prog 19 #[va, vb, .slice none 0 0] w fun e w' => e = .returned (.bool (rightB la lb [])) ∧ w = w' := by
  have h1 := reftexts_any va la w ha hna hsa
  have h2 := reftexts_any vb lb w hb hnb hsb
  rw [right_split]
  generalize (la.all textB && decide ((la.length : Int) ≤ 8)) = A at h1 ⊢
  generalize (lb.all textB && decide ((lb.length : Int) ≤ 8)) = B at h2 ⊢
  have H1 := Lib.hid h1
  have H2 := Lib.hid h2
  clear h1 h2 ha hb hsa hsb
  cases A <;> cases B
  all_goals
    go_enter Try.func19, Try.ntmps19
    go_wp2_with fail
    refine H1.out.mono ?_
    rintro e w' ⟨rfl, rfl⟩
    go_wp2_with fail
    refine H2.out.mono ?_
    rintro e w' ⟨rfl, rfl⟩
    go_wp2_with fail
    refine wp_loop_rounds 1 ?_
    rw [rounds_succ]
    go_wp2
    go_ret
    exact ⟨rfl, rfl⟩

end Go.Proofs.Ytkmbmbpjppjdjaa
