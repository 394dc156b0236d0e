/- Rules are right. -/
import Derived.Test.YtnajikpdnccilaaGreatPvMI
set_option linter.unusedVariables false
set_option linter.unusedSimpArgs false
namespace Go.Proofs.YtnajikpdnccilaaGreat.Pv.M
open Go

section
variable {ρ : Nat → Int} {P : Program} {D : Dm} {σ : Sg}
theorem look_subHp (H : Heap) (n : Nat) : look (subHp σ H) n = (look H n).map (subO σ) := by
  show look (mapL (fun p => (p.1, subO σ p.2)) H) n = _
  rw [mapL_eq]
  induction H with
  | nil => rfl
  | cons p t ih =>
    rw [List.map_cons, look_cons, look_cons, ih]
    split <;> rfl
theorem AlikeO.dead {φ : Nat → Ph} {nx : Nat} {ρ' : Nat → Int} {a b : MO} (h : AlikeO ρ φ nx ρ' a b) : a ≠ .dead ↔ b ≠ .dead := not_congr h.1
/-- Memory that says the same. -/
def AlikeH (ρ ρ' : Nat → Int) (H H' : Heap) : Prop := (∀ n o, look H n = some o → ∃ o', look H' n = some o' ∧ ∀ φ nx, AlikeO ρ φ nx ρ' o o') ∧ (∀ n o', look H' n = some o' → ∃ o, look H n = some o ∧ ∀ φ nx, AlikeO ρ φ nx ρ' o o')
theorem AlikeH.own {ρ' : Nat → Int} {H H' : Heap} (h : AlikeH ρ ρ' H H') (φ : Nat → Ph) : Own φ H = Own φ H' := by
  funext b
  refine propext ⟨?_, ?_⟩
  · rintro ⟨n, o, a, b, d⟩
    obtain ⟨o', a', e⟩ := h.1 n o a
    exact ⟨n, o', a', (AlikeO.dead (e φ 0)).1 b, d⟩
  · rintro ⟨n, o, a, b, d⟩
    obtain ⟨o', a', e⟩ := h.2 n o a
    exact ⟨n, o', a', (AlikeO.dead (e φ 0)).2 b, d⟩
theorem AlikeH.ok {ρ' : Nat → Int} {H H' : Heap} (h : AlikeH ρ ρ' H H') {φ : Nat → Ph} {nx : Nat} {w : World} : Ok ρ φ nx H w ↔ Ok ρ' φ nx H' w := by
  constructor
  · rintro ⟨h1, h2⟩
    refine ⟨fun n o' hn => ?_, fun n m o o' a b hne d1 d2 => ?_⟩
    · obtain ⟨o, a, e⟩ := h.2 n o' hn
      exact ⟨(h1 n o a).1, ((e φ nx).2 w n).1 (h1 n o a).2⟩
    · obtain ⟨q, a', e⟩ := h.2 n o a
      obtain ⟨q', b', e'⟩ := h.2 m o' b
      exact h2 n m q q' a' b' hne ((AlikeO.dead (e φ nx)).2 d1) ((AlikeO.dead (e' φ nx)).2 d2)
  · rintro ⟨h1, h2⟩
    refine ⟨fun n o' hn => ?_, fun n m o o' a b hne d1 d2 => ?_⟩
    · obtain ⟨o, a, e⟩ := h.1 n o' hn
      exact ⟨(h1 n o a).1, ((e φ nx).2 w n).2 (h1 n o a).2⟩
    · obtain ⟨q, a', e⟩ := h.1 n o a
      obtain ⟨q', b', e'⟩ := h.1 m o' b
      exact h2 n m q q' a' b' hne ((AlikeO.dead (e φ nx)).1 d1) ((AlikeO.dead (e' φ nx)).1 d2)
theorem TB.alike {ρ' : Nat → Int} {g : Nat} {args args' : List MV} {nx nx' : Nat} {H H' K K' : Heap} {r r' : MV} (h : TB ρ' P g args' nx H' r' nx' K') (hl : args.length = args'.length) (ha : ∀ (i : Nat) a a', args[i]? = some a → args'[i]? = some a' → ∀ φ nx, Alike ρ φ nx ρ' a a')
    (hH : AlikeH ρ ρ' H H') (hr : ∀ φ nx, Alike ρ φ nx ρ' r r') (hK : AlikeH ρ ρ' K K') : TB ρ P g args nx H r nx' K := by
  refine ⟨h.1, fun w φ vals hok hsz hargs => ?_⟩
  refine (h.2 w φ vals (hH.ok.1 hok) (by omega) fun i a' v h1 h2 => ?_).mono ?_
  · have hlt : i < args.length := by have := (List.getElem?_eq_some_iff.1 h1).1; omega
    exact (ha i args[i] a' (by simp [hlt]) h1 φ nx v).1 (hargs i args[i] v (by simp [hlt]) h2)
  · rintro e w' ⟨φ', v, he, hok', hrv, hext, hle, hφ⟩
    exact ⟨φ', v, he, hK.ok.2 hok', (hr φ' nx' v).2 hrv, by rw [hH.own φ, hK.own φ']; exact hext, hle, hφ⟩

/-- What a rule says: for all that its variables may be. -/
def RuleOk (P : Program) (r : Rule) : Prop := fineB r = true ∧ ∀ ρ', OkD r.D ρ' → ∃ v m' H', TB ρ' P r.g r.args r.m r.need v m' H' ∧ (∀ φ nx, Alike ρ' φ nx ρ' v r.res) ∧ ∀ n o, look r.need n = some o → ∃ o', look H' n = some o' ∧ ∀ φ nx, AlikeO ρ' φ nx ρ' o' (laterO r n o)
theorem okB_ok (hD : OkD D ρ) : ∀ (bs : List (Int × Int)) (σ : Sg), okB D σ bs = true → ∀ (i : Nat) b, bs[i]? = some b → b.1 ≤ sgR ρ σ i ∧ sgR ρ σ i ≤ b.2
  | [], σ, _, i, b, hb => by simp at hb
  | b0 :: bs, [], h, i, b, hb => by simp [okB] at h
  | b0 :: bs, s :: σ, h, i, b, hb => by
    simp only [okB] at h
    cases h1 : ge0 D (s.1 - b0.1) s.2 with
    | false => rw [h1] at h; simp at h
    | true =>
      cases h2 : ge0 D (b0.2 - s.1) (negL s.2) with
      | false => rw [h1, h2] at h; simp at h
      | true =>
        rw [h1, h2] at h
        simp only [cond_true] at h
        have e1 := ge0_ok hD h1
        have e2 := ge0_ok hD h2
        rw [dot_neg] at e2
        cases i with
        | zero =>
          simp at hb; subst hb
          have : sgR ρ (s :: σ) 0 = s.1 + dot ρ 0 s.2 := by simp [sgR]
          rw [this]; omega
        | succ i =>
          have := okB_ok hD bs σ h i b (by simpa using hb)
          have e : sgR ρ (s :: σ) (i + 1) = sgR ρ σ i := by simp [sgR]
          rw [e]; exact this
theorem okF_ok (hD : OkD D ρ) : ∀ (fs : List (Int × List Int)), okF D σ fs = true → ∀ f ∈ fs, 0 ≤ f.1 + dot (sgR ρ σ) 0 f.2
  | [], _, f, hf => by cases hf
  | f0 :: fs, h, f, hf => by
    simp only [okF] at h
    cases h1 : ge0 D (f0.1 + (subA σ f0.2).1) (subA σ f0.2).2 with
    | false => rw [h1] at h; simp at h
    | true =>
      rw [h1] at h
      simp only [cond_true] at h
      have e1 := ge0_ok hD h1
      rcases List.mem_cons.1 hf with rfl | hf
      · rw [← subA_ok f.2 σ (sgR ρ σ) 0 (fun j => by rw [Nat.zero_add])]; omega
      · exact okF_ok hD fs h f hf
theorem ble_lt (m : Nat) : (fun n => Nat.ble (Nat.succ n) m) = ltB m := by
  funext n
  show Nat.ble (Nat.succ n) m = decide (n < m)
  by_cases h : n < m
  · rw [decide_eq_true h]; exact Nat.ble_eq_true_of_le h
  · rw [decide_eq_false h]; cases hb : Nat.ble (Nat.succ n) m; rfl; exact absurd (Nat.le_of_ble_eq_true hb) h
theorem hasV_alike {p : Nat → Bool} (x : MV) : hasV p (subV σ x) = hasV p x := by
  refine @MV.rec (fun x => hasV p (subV σ x) = hasV p x) (fun l => allB (hasV p) (l.map (subV σ)) = allB (hasV p) l) (fun _ => rfl) (fun _ => rfl) (fun _ _ => rfl) (fun k c l => ?_) (fun n _ => rfl) (fun _ n _ _ _ => rfl) (fun cs h => ?_) (fun cs h => ?_)
    (fun f a b h1 h2 => ?_) (fun n => rfl) (fun _ _ h => h) rfl (fun x t h1 h2 => ?_) x
  · show hasV p (subN σ k c l) = true
    unfold subN mk
    cases zeroL (subA σ l).2 <;> rfl
  · rw [subV_agg, hasV_agg, hasV_agg]; exact h
  · rw [subV_tup, hasV_tup, hasV_tup]; exact h
  · rw [subV_clo, hasV_clo, hasV_clo, h1, h2]
  · rw [List.map_cons]
    show Bool.rec (motive := fun _ => Bool) false (allB (hasV p) (t.map (subV σ))) (hasV p (subV σ x)) = Bool.rec (motive := fun _ => Bool) false (allB (hasV p) t) (hasV p x)
    rw [h1, h2]
theorem hasO_alike {p : Nat → Bool} (o : MO) : hasO p (subO σ o) = hasO p o := by
  cases o with
  | cells l =>
    show allB (hasV p) (mapL (subV σ) l) = allB (hasV p) l
    rw [mapL_eq]
    induction l with
    | nil => rfl
    | cons x t ih =>
      rw [List.map_cons]
      show Bool.rec (motive := fun _ => Bool) false (allB (hasV p) (t.map (subV σ))) (hasV p (subV σ x)) = Bool.rec (motive := fun _ => Bool) false (allB (hasV p) t) (hasV p x)
      rw [hasV_alike, ih]
  | map es =>
    show allB (fun e => oc (hasV p e.1) (hasV p e.2)) (mapL (fun e => (subV σ e.1, subV σ e.2)) es) = allB (fun e => oc (hasV p e.1) (hasV p e.2)) es
    rw [mapL_eq]
    induction es with
    | nil => rfl
    | cons x t ih =>
      rw [List.map_cons]
      show Bool.rec (motive := fun _ => Bool) false (allB (fun e => oc (hasV p e.1) (hasV p e.2)) (t.map (fun e => (subV σ e.1, subV σ e.2)))) (oc (hasV p (subV σ x.1)) (hasV p (subV σ x.2))) = Bool.rec (motive := fun _ => Bool) false (allB (fun e => oc (hasV p e.1) (hasV p e.2)) t) (oc (hasV p x.1) (hasV p x.2))
      rw [hasV_alike, hasV_alike, ih]
  | dead => rfl
theorem Alike.trans {ρ1 ρ2 ρ3 : Nat → Int} {φ : Nat → Ph} {nx : Nat} {a b c : MV} (h : Alike ρ1 φ nx ρ2 a b) (k : Alike ρ2 φ nx ρ3 b c) : Alike ρ1 φ nx ρ3 a c := fun u => (h u).trans (k u)
theorem AlikeO.trans {ρ1 ρ2 ρ3 : Nat → Int} {φ : Nat → Ph} {nx : Nat} {a b c : MO} (h : AlikeO ρ1 φ nx ρ2 a b) (k : AlikeO ρ2 φ nx ρ3 b c) : AlikeO ρ1 φ nx ρ3 a c := ⟨h.1.trans k.1, fun w n => (h.2 w n).trans (k.2 w n)⟩
theorem Alike.symm {ρ1 ρ2 : Nat → Int} {φ : Nat → Ph} {nx : Nat} {a b : MV} (h : Alike ρ1 φ nx ρ2 a b) : Alike ρ2 φ nx ρ1 b a := fun u => (h u).symm
theorem AlikeO.symm {ρ1 ρ2 : Nat → Int} {φ : Nat → Ph} {nx : Nat} {a b : MO} (h : AlikeO ρ1 φ nx ρ2 a b) : AlikeO ρ2 φ nx ρ1 b a := ⟨h.1.symm, fun w n => (h.2 w n).symm⟩
noncomputable def selG {α : Type} (H : List (Nat × α)) (ks : List Nat) : List (Nat × α) := ks.filterMap fun k => (look H k).map fun x => (k, x)
theorem look_selG {α : Type} (H : List (Nat × α)) : ∀ (ks : List Nat) (k : Nat), look (selG H ks) k = if k ∈ ks then look H k else none
  | [], k => by simp [selG, look_nil]
  | q :: ks, k => by
    have ih := look_selG H ks k
    cases hq : look H q with
    | none =>
      have e : selG H (q :: ks) = selG H ks := by simp [selG, hq]
      rw [e, ih]
      by_cases h : k = q
      · subst h; simp [hq]
      · simp [h]
    | some x =>
      have e : selG H (q :: ks) = (q, x) :: selG H ks := by simp [selG, hq]
      rw [e, look_cons, ih]
      by_cases h : q = k
      · subst h; simp [hq]
      · simp [h, show ¬ (k = q) from fun e => h e.symm]
theorem mem_keys {α : Type} {H : List (Nat × α)} {n : Nat} : n ∈ H.map (·.1) ↔ ∃ o, look H n = some o := by
  constructor
  · intro h
    obtain ⟨p, hp, rfl⟩ := List.mem_map.1 h
    exact mem_look (x := p.2) hp
  · rintro ⟨o, h⟩
    exact List.mem_map.2 ⟨_, look_mem h, rfl⟩
theorem look_rev {α : Type} {l : List (Nat × α)} {n : Nat} : (∃ o, look l.reverse n = some o) ↔ ∃ o, look l n = some o := by
  rw [← mem_keys, ← mem_keys]; simp
theorem rule_use {r : Rule} (hr : RuleOk P r) (hD : OkD D ρ) {args : List MV} {nx : Nat} {H : Heap} (hh : hit D r args nx H σ = true) (hnd : ∀ n o, look (subHp σ r.out).reverse n = some o → look (subHp σ r.out) n = some o) : TB ρ P r.g args nx H (subV σ r.res) nx ((subHp σ r.out).reverse ++ H) := by
  obtain ⟨h1, hh⟩ := oc_inv hh
  obtain ⟨h2, hh⟩ := oc_inv hh
  obtain ⟨h3, hh⟩ := oc_inv hh
  obtain ⟨h4, h5⟩ := oc_inv hh
  obtain ⟨hfine, hr⟩ := hr
  obtain ⟨f1, hfine⟩ := oc_inv hfine
  obtain ⟨f2, hfine⟩ := oc_inv hfine
  obtain ⟨f3, f4⟩ := oc_inv hfine
  rw [ble_lt] at f1 f2 f3 f4
  have f3 : ∀ n o, look r.need n = some o → n < r.m ∧ hasO (ltB r.m) o = true := fun n o hn => by
    obtain ⟨a, b⟩ := oc_inv (allB_inv f3 _ (look_mem hn))
    exact ⟨Nat.le_of_ble_eq_true a, b⟩
  have f4 : ∀ n o, look r.out n = some o → (∃ o', look r.need n = some o') ∧ hasO (ltB r.m) o = true := fun n o hn => by
    obtain ⟨a, b⟩ := oc_inv (allB_inv f4 _ (look_mem hn))
    exact ⟨someB_inv a, b⟩
  obtain ⟨v, m', H', ht, hv, hkept⟩ := hr (sgR ρ σ) ⟨okB_ok hD _ _ h4, okF_ok hD _ h5⟩
  have hm := Nat.le_of_ble_eq_true h1
  have hneed : ∀ n o, look r.need n = some o → ∃ o1, look H n = some o1 ∧ ∀ φ nx, AlikeO ρ φ nx ρ o1 (subO σ o) := fun n o hn => by
    obtain ⟨o1, a, b⟩ := ob_inv (allB_inv h3 _ (look_mem hn))
    exact ⟨o1, a, fun φ nx => (eqO_ok b).symm⟩
  have hlk : ∀ n, look (r.need.map fun p => (p.1, laterO r p.1 p.2)) n = (look r.need n).map (laterO r n) := by
    intro n
    induction r.need with
    | nil => rfl
    | cons p t ih =>
      rw [List.map_cons, look_cons, look_cons, ih]
      by_cases e : p.1 = n
      · subst e; simp
      · simp [e]
  -- what is left, of the names that were given
  have t0 : TB (sgR ρ σ) P r.g r.args r.m r.need v m' (selG H' (r.need.map (·.1))) := ht.frame (fun n o hn => hn) fun n o hn => by
    rw [look_selG] at hn
    split at hn
    · exact .inl hn
    · cases hn
  have t1 : TB ρ P r.g (r.args.map (subV σ)) r.m (subHp σ r.need) (subV σ r.res) m' (subHp σ (r.need.map fun p => (p.1, laterO r p.1 p.2))) := by
    refine t0.alike (by simp) (fun i a a' ha ha' φ nx => ?_) ⟨fun n o hn => ?_, fun n o hn => ?_⟩ (fun φ nx => (subV_ok r.res).trans (hv φ nx).symm) ⟨fun n o hn => ?_, fun n o hn => ?_⟩
    · rw [List.getElem?_map, ha'] at ha
      cases ha
      exact subV_ok a'
    · rw [look_subHp] at hn
      cases hq : look r.need n with
      | none => rw [hq] at hn; cases hn
      | some o' =>
        rw [hq] at hn; cases hn
        exact ⟨o', rfl, fun φ nx => subO_ok o'⟩
    · exact ⟨subO σ o, by rw [look_subHp, hn]; rfl, fun φ nx => subO_ok o⟩
    · rw [look_subHp, hlk] at hn
      cases hq : look r.need n with
      | none => rw [hq] at hn; cases hn
      | some o1 =>
        rw [hq] at hn; cases hn
        obtain ⟨o', a, b⟩ := hkept n o1 hq
        refine ⟨o', ?_, fun φ nx => (subO_ok _).trans (b φ nx).symm⟩
        rw [look_selG, if_pos (mem_keys.2 ⟨o1, hq⟩)]; exact a
    · rw [look_selG] at hn
      split at hn
      · rename_i hmem
        obtain ⟨o1, hq⟩ := mem_keys.1 hmem
        obtain ⟨o', a, b⟩ := hkept n o1 hq
        rw [hn] at a; cases a
        refine ⟨subO σ (laterO r n o1), ?_, fun φ nx => (subO_ok _).trans (b φ nx).symm⟩
        rw [look_subHp, hlk, hq]; rfl
      · cases hn
  have hH1 : ∀ n, look (subHp σ r.need ++ H) n = ((look r.need n).map (subO σ)).or (look H n) := fun n => by rw [look_app, look_subHp]
  have t2 : TB ρ P r.g (r.args.map (subV σ)) nx (subHp σ r.need ++ H) (subV σ r.res) nx (subHp σ (r.need.map fun p => (p.1, laterO r p.1 p.2)) ++ H) := by
    refine t1.use hm (fun a ha => ?_) (fun n o hn => ?_) (by rw [hasV_alike]; exact f2) fun n o hn => ?_
    · obtain ⟨a', ha', rfl⟩ := List.mem_map.1 ha
      rw [hasV_alike]; exact allB_inv f1 a' ha'
    · rw [hH1]
      rw [look_subHp] at hn
      cases hq : look r.need n with
      | none => rw [hq] at hn; cases hn
      | some o' =>
        rw [hq] at hn; cases hn
        exact ⟨rfl, (f3 n o' hq).1, by rw [hasO_alike]; exact (f3 n o' hq).2⟩
    · rw [look_app, look_subHp, hlk] at hn
      cases hq : look r.need n with
      | none =>
        rw [hq] at hn
        have hn : look H n = some o := by simpa using hn
        refine .inr ⟨?_, by rw [look_subHp, hq]; rfl⟩
        rw [hH1, hq]; simpa using hn
      | some o1 =>
        rw [hq] at hn
        have hn : subO σ (laterO r n o1) = o := by simpa using hn
        subst hn
        refine .inl ⟨by rw [look_subHp, hlk, hq]; rfl, (f3 n o1 hq).1, ?_⟩
        rw [hasO_alike]
        unfold laterO
        cases ho : look r.out n with
        | none => exact (f3 n o1 hq).2
        | some o2 => exact (f4 n o2 ho).2
  have e2 := fun (φ : Nat → Ph) (nx : Nat) => (eqL_ok (ρ := ρ) (φ := φ) (nx := nx) h2)
  rw [mapL_eq] at e2
  have hout : ∀ n, look ((subHp σ r.out).reverse ++ H) n = ((look r.out n).map (subO σ)).or (look H n) := by
    intro n
    rw [look_app]
    cases hq : look (subHp σ r.out).reverse n with
    | some x =>
      have := hnd n x hq
      rw [look_subHp] at this
      rw [this]
    | none =>
      cases hq2 : look r.out n with
      | none => rfl
      | some y =>
        exfalso
        obtain ⟨z, hz⟩ := look_rev.2 (⟨subO σ y, by rw [look_subHp, hq2]; rfl⟩ : ∃ o, look (subHp σ r.out) n = some o)
        rw [hq] at hz; cases hz
  refine t2.alike (by have := (e2 (fun _ => default) 0).1; simpa using this.symm) (fun i a a' ha ha' φ nx => ((e2 φ nx).2 i a' a ha' ha).symm) ⟨fun n o hn => ?_, fun n o hn => ?_⟩ (fun φ nx u => Iff.rfl) ⟨fun n o hn => ?_, fun n o hn => ?_⟩
  · rw [hH1]
    cases hq : look r.need n with
    | none => exact ⟨o, by simpa using hn, fun φ nx => ⟨Iff.rfl, fun w n => Iff.rfl⟩⟩
    | some o' =>
      obtain ⟨o1, a, b⟩ := hneed n o' hq
      rw [hn] at a; cases a
      exact ⟨subO σ o', rfl, b⟩
  · rw [hH1] at hn
    cases hq : look r.need n with
    | none => rw [hq] at hn; exact ⟨o, by simpa using hn, fun φ nx => ⟨Iff.rfl, fun w n => Iff.rfl⟩⟩
    | some o' =>
      rw [hq] at hn
      have hn : subO σ o' = o := by simpa using hn
      subst hn
      exact hneed n o' hq
  · rw [hout] at hn
    rw [look_app, look_subHp, hlk]
    cases hq : look r.need n with
    | none =>
      cases ho : look r.out n with
      | some y => obtain ⟨⟨z, hz⟩, _⟩ := f4 n y ho; rw [hq] at hz; cases hz
      | none => rw [ho] at hn; exact ⟨o, by simpa using hn, fun φ nx => ⟨Iff.rfl, fun w n => Iff.rfl⟩⟩
    | some o1 =>
      refine ⟨subO σ (laterO r n o1), rfl, fun φ nx => ?_⟩
      unfold laterO
      cases ho : look r.out n with
      | some y =>
        rw [ho] at hn
        have hn : subO σ y = o := by simpa using hn
        subst hn; exact ⟨Iff.rfl, fun w n => Iff.rfl⟩
      | none =>
        rw [ho] at hn
        have hn : look H n = some o := by simpa using hn
        obtain ⟨o2, a, b⟩ := hneed n o1 hq
        rw [hn] at a; cases a
        exact b φ nx
  · rw [look_app, look_subHp, hlk] at hn
    rw [hout]
    cases hq : look r.need n with
    | none =>
      cases ho : look r.out n with
      | some y => obtain ⟨⟨z, hz⟩, _⟩ := f4 n y ho; rw [hq] at hz; cases hz
      | none => rw [hq] at hn; exact ⟨o, by simpa using hn, fun φ nx => ⟨Iff.rfl, fun w n => Iff.rfl⟩⟩
    | some o1 =>
      rw [hq] at hn
      have hn : subO σ (laterO r n o1) = o := by simpa using hn
      subst hn
      unfold laterO
      cases ho : look r.out n with
      | some y => exact ⟨subO σ y, rfl, fun φ nx => ⟨Iff.rfl, fun w n => Iff.rfl⟩⟩
      | none =>
        obtain ⟨o2, a, b⟩ := hneed n o1 hq
        exact ⟨o2, by simpa using a, b⟩
/-- No name twice. -/
noncomputable def onceB (l : List (Nat × MO)) : Bool := match l with
  | [] => true
  | p :: t => cond (someB (look t p.1)) false (onceB t)
theorem onceB_rev : ∀ {l : Heap}, onceB l = true → ∀ n o, look l.reverse n = some o → look l n = some o
  | [], _, n, o, h => by cases (show (none : Option MO) = some o from h)
  | p :: t, h, n, o, hn => by
    simp only [onceB] at h
    cases hq : look t p.1 with
    | some x => rw [hq] at h; cases (show false = true from h)
    | none =>
      rw [hq] at h
      have h : onceB t = true := h
      rw [List.reverse_cons, look_app] at hn
      rw [look_cons]
      cases hr : look t.reverse n with
      | some y =>
        rw [hr] at hn
        have hn : y = o := by simpa using hn
        subst hn
        have e := onceB_rev h n y hr
        rw [if_neg (fun e2 => by subst e2; rw [hq] at e; cases e)]; exact e
      | none =>
        rw [hr, look_cons] at hn
        by_cases e : p.1 = n
        · rw [if_pos e] at hn ⊢; simpa using hn
        · rw [if_neg e] at hn; simp [look_nil] at hn
theorem onceB_sub : ∀ {l : Heap}, onceB l = true → onceB (subHp σ l) = true
  | [], _ => rfl
  | p :: t, h => by
    simp only [onceB] at h
    cases hq : look t p.1 with
    | some x => rw [hq] at h; cases (show false = true from h)
    | none =>
      rw [hq] at h
      have h : onceB t = true := h
      show cond (someB (look (subHp σ t) p.1)) false (onceB (subHp σ t)) = true
      rw [look_subHp, hq]
      exact onceB_sub h
theorem ruleW_ok {r : Rule} (hr : RuleOk P r) (ho : onceB r.out = true) (hD : OkD D ρ) {e : CallK} (he : CallOk ρ P e) : CallOk ρ P (ruleW D r e) := by
  intro g args nx H k h
  rcases ow_inv (show ow (Nat.beq g r.g) (Option.rec (motive := fun _ => Bool) (e g args nx H k) (fun σ => ow (hit D r args nx H σ) (layK (subHp σ r.out) H fun Hf => k (subV σ r.res) nx Hf) (e g args nx H k)) (sgOf H r.reads)) (e g args nx H k) = true from h) with ⟨hg, h1⟩ | ⟨_, h1⟩
  · cases hs : sgOf H r.reads with
    | none => rw [hs] at h1; exact he h1
    | some σ =>
      rw [hs] at h1
      rcases ow_inv (show ow (hit D r args nx H σ) (layK (subHp σ r.out) H fun Hf => k (subV σ r.res) nx Hf) (e g args nx H k) = true from h1) with ⟨hh, h2⟩ | ⟨_, h2⟩
      · have hg := Nat.eq_of_beq_eq_true hg
        subst hg
        rw [layK_eq] at h2
        exact ⟨_, _, _, rule_use hr hD hh (onceB_rev (onceB_sub ho)), h2, _, rfl⟩
      · exact he h2
  · exact he h1
/-- All rules of a row. -/
def RulesOk (P : Program) (rs : List Rule) : Prop := ∀ r ∈ rs, RuleOk P r ∧ onceB r.out = true
theorem rulesW_ok (hD : OkD D ρ) {e : CallK} (he : CallOk ρ P e) : ∀ {rs : List Rule}, RulesOk P rs → CallOk ρ P (rulesW D rs e)
  | [], _ => he
  | r :: rs, h => ruleW_ok (h r List.mem_cons_self).1 (h r List.mem_cons_self).2 hD (rulesW_ok hD he fun q hq => h q (List.mem_cons_of_mem _ hq))
theorem runG_ok (hm : P.follows .mixedOrders = true) (hD : OkD D ρ) {rs : List Rule} (hrs : RulesOk P rs) (gs : List Nat) : ∀ (n : Nat), CallOk ρ P (runG P D rs gs n)
  | 0 => fun h => by cases (show false = true from h)
  | n + 1 => rulesW_ok hD (gcW_ok (stepF_ok hD (drawOk hm hD) (runG_ok hm hD hrs gs n)) gs) hrs
/-- What the kernel works out for a rule. -/
noncomputable def ruleB (P : Program) (rs : List Rule) (gs : List Nat) (n : Nat) (r : Rule) : Bool := oc (fineB r) (oc (onceB r.out) (runG P r.D rs gs n r.g r.args r.m r.need (keptB r)))
theorem ruleB_ok (hm : P.follows .mixedOrders = true) {rs : List Rule} (hrs : RulesOk P rs) {gs : List Nat} {n : Nat} {r : Rule} (h : ruleB P rs gs n r = true) : RuleOk P r ∧ onceB r.out = true := by
  obtain ⟨h1, h⟩ := oc_inv h
  obtain ⟨h2, h⟩ := oc_inv h
  refine ⟨⟨h1, fun ρ' hD => ?_⟩, h2⟩
  obtain ⟨v, m', H', t, hk, _⟩ := runG_ok hm hD hrs gs n h
  obtain ⟨k1, k2⟩ := oc_inv hk
  refine ⟨v, m', H', t, fun φ nx => eqV_ok v _ k1, fun n o hn => ?_⟩
  obtain ⟨o', a, b⟩ := ob_inv (allB_inv k2 _ (look_mem hn))
  exact ⟨o', a, fun φ nx => eqO_ok b⟩
theorem rules_nil : RulesOk P [] := fun r hr => by cases hr
theorem rules_cons {r : Rule} {rs : List Rule} (h : RuleOk P r ∧ onceB r.out = true) (hs : RulesOk P rs) : RulesOk P (r :: rs) := fun q hq => by
  rcases List.mem_cons.1 hq with rfl | hq
  · exact h
  · exact hs q hq
end
end Go.Proofs.YtnajikpdnccilaaGreat.Pv.M
