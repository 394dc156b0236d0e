/- A region that draws its order: what the kernel works out is so (2). -/
import Derived.Test.YtnajikpdnccilaaGreatPvMY
set_option linter.unusedVariables false
set_option linter.unusedSimpArgs false
namespace Go.Proofs.YtnajikpdnccilaaGreat.Pv.M
open Go

section
variable {ρ : Nat → Int} {P : Program} {D : Dm}
noncomputable def selM (env : Env) (ks : List Nat) : Env := ks.filterMap fun k => (look env k).map fun x => (k, x)
theorem look_selM (env : Env) : ∀ (ks : List Nat) (k : Nat), look (selM env ks) k = if k ∈ ks then look env k else none
  | [], k => by simp [selM, look_nil]
  | q :: ks, k => by
    have ih := look_selM env ks k
    cases hq : look env q with
    | none =>
      have e : selM env (q :: ks) = selM env ks := by simp [selM, hq]
      rw [e, ih]
      by_cases h : k = q
      · subst h; simp [hq]
      · simp [h]
    | some x =>
      have e : selM env (q :: ks) = (q, x) :: selM env ks := by simp [selM, hq]
      rw [e, look_cons, ih]
      by_cases h : q = k
      · subst h; simp [hq]
      · simp [h, show ¬ (k = q) from fun e => h e.symm]
theorem sub_given {op : Op} {env : Env} {H : Heap} : ∀ n o, look (givenH op env H) n = some o → look H n = some o := by
  have name : ∀ (a : MV) (r : Heap), (∀ n o, look r n = some o → look H n = some o) → ∀ n o, look (nameC a H r) n = some o → look H n = some o := by
    intro a r hr
    have one : ∀ m, ∀ n o, look (Option.rec (motive := fun _ => Heap) r (fun o => (m, o) :: r) (look H m) : Heap) n = some o → look H n = some o := by
      intro m n o h
      cases hm : look H m with
      | none => rw [hm] at h; exact hr n o h
      | some x =>
        rw [hm] at h
        have h : look ((m, x) :: r) n = some o := h
        rw [look_cons] at h
        by_cases e : m = n
        · subst e; rw [if_pos rfl] at h; rw [hm]; exact h
        · rw [if_neg e] at h; exact hr n o h
    cases a <;> first | exact hr | exact one _
  have subs : ∀ (l : List Operand), ∀ n o, look (subH env H l) n = some o → look H n = some o := by
    intro l
    induction l with
    | nil => intro n o h; rw [show subH env H [] = [] from rfl, look_nil] at h; cases h
    | cons x l ih =>
      have e : subH env H (x :: l) = Option.rec (motive := fun _ => Heap) (subH env H l) (fun a => nameC a H (subH env H l)) (ev env x) := rfl
      rw [e]
      cases ev env x with
      | none => exact ih
      | some a => exact name a _ ih
  intro n o h
  unfold givenH at h
  cases hk : okind op with
  | zero =>
    rw [hk] at h
    have h : look ([] : Heap) n = some o := h
    rw [look_nil] at h; cases h
  | succ q =>
    rw [hk] at h
    have h : look (Bool.rec (motive := fun _ => Heap) H (subH env H (rdOps op)) (Nat.ble q 1)) n = some o := h
    cases hb : Nat.ble q 1 with
    | false => rw [hb] at h; exact h
    | true => rw [hb] at h; exact subs _ n o h
theorem given_zero {op : Op} {env : Env} {H : Heap} (h : okind op = 0) : givenH op env H = [] := by unfold givenH; rw [h]; rfl
def toCe (c : Cert) : Ce := ⟨c.pv, c.hS, c.hT, c.M, c.M'⟩
/-- What was looked at as it ran. -/
def Free (a b : Cert) : Prop := (∀ n, (look a.hT n).isSome = true → look b.hT n = none ∧ look b.hS n = none) ∧ (∀ n, (look b.hT n).isSome = true → look a.hS n = none) ∧ (a.M = a.M' ∨ silent a b)
theorem look_mem {α : Type} {l : List (Nat × α)} {n : Nat} {x : α} (h : look l n = some x) : (n, x) ∈ l := by
  induction l with
  | nil => rw [look_nil] at h; cases h
  | cons p t ih =>
    rw [look_cons] at h
    split at h
    · rename_i e; cases h; subst e; exact List.mem_cons_self
    · exact List.mem_cons_of_mem _ (ih h)
theorem noneB_inv {α : Type} {o : Option α} (h : noneB o = true) : o = none := by
  cases o with
  | none => rfl
  | some x => cases (show false = true from h)
theorem outB_eq (M M' : Nat) : outB M M' = outP M M' := by
  funext n
  unfold outB outP
  by_cases h : n < M
  · rw [show Nat.ble (Nat.succ n) M = true from Nat.ble_eq_true_of_le h]; simp [h]
  · have : Nat.ble (Nat.succ n) M = false := by cases hb : Nat.ble (Nat.succ n) M; rfl; exact absurd (Nat.le_of_ble_eq_true hb) h
    rw [this]
    show Nat.ble M' n = _
    by_cases h2 : M' ≤ n
    · rw [Nat.ble_eq_true_of_le h2]; simp [h2]
    · have : Nat.ble M' n = false := by cases hb : Nat.ble M' n; rfl; exact absurd (Nat.le_of_ble_eq_true hb) h2
      rw [this]; simp [h, h2]
theorem freeB_ok {a b : Cert} (h : freeB (toCe a) (toCe b) = true) : Free a b := by
  obtain ⟨h1, h⟩ := oc_inv h
  obtain ⟨h2, h3⟩ := oc_inv h
  refine ⟨fun n hn => ?_, fun n hn => ?_, ?_⟩
  · obtain ⟨x, hx⟩ := Option.isSome_iff_exists.1 hn
    obtain ⟨q1, q2⟩ := oc_inv (allB_inv h1 _ (look_mem hx))
    exact ⟨noneB_inv q1, noneB_inv q2⟩
  · obtain ⟨x, hx⟩ := Option.isSome_iff_exists.1 hn
    exact noneB_inv (allB_inv h2 _ (look_mem hx))
  · rcases ow_inv h3 with ⟨e, _⟩ | ⟨_, h⟩
    · exact .inl (Nat.eq_of_beq_eq_true e)
    · obtain ⟨q1, q2⟩ := oc_inv h
      rw [outB_eq] at q1 q2
      refine .inr ⟨q1, fun n o hn => ?_⟩
      exact oc_inv (allB_inv q2 _ (look_mem hn))
theorem hasV_all {p : Nat → Bool} (hp : ∀ n, p n = true) (x : MV) : hasV p x = true := by
  refine @MV.rec (fun x => hasV p x = true) (fun l => allB (hasV p) l = true) (fun _ => rfl) (fun _ => rfl) (fun _ _ => rfl) (fun _ _ _ => rfl) (fun n _ => hp n) (fun _ n _ _ _ => hp n) (fun cs h => by rw [hasV_agg]; exact h) (fun cs h => by rw [hasV_tup]; exact h)
    (fun f a b h1 h2 => by rw [hasV_clo]; exact oc_intro h1 h2) (fun n => hp n) (fun _ _ h => h) rfl (fun x t h1 h2 => ?_) x
  show Bool.rec (motive := fun _ => Bool) false (allB (hasV p) t) (hasV p x) = true
  rw [h1]; exact h2
theorem hasO_all {p : Nat → Bool} (hp : ∀ n, p n = true) (o : MO) : hasO p o = true := by
  cases o with
  | cells l => exact allB_intro fun a _ => hasV_all hp a
  | map es => exact allB_intro fun e _ => oc_intro (hasV_all hp e.1) (hasV_all hp e.2)
  | dead => rfl
theorem silent_none {a b : Cert} (h : a.M = a.M') : silent a b := by
  have hp : ∀ n, outP a.M a.M' n = true := fun n => by simp only [outP, ← h, Bool.or_eq_true, decide_eq_true_eq]; omega
  exact ⟨hasV_all hp _, fun n o _ => ⟨hp n, hasO_all hp o⟩⟩
/-- A certificate, but for a function's room. -/
def COk0 (ρ : Nat → Int) (P : Program) (ops : Array Oper) (c : Cert) : Prop :=
  ∃ b : Bool, (b = true → ∀ c', DoesB ρ P c.o c' c.M c.eS c.hS c.pv c.M' (c.hT ++ c.hS)) ∧ (b = false → c.pv = undefM ∧ c.hT = []) ∧
    (∀ {c' nx H φ tmps w}, St ρ c' nx c.eS H φ tmps w → Region.wanted c.o (yielded ops tmps) = b) ∧ ∀ n o, look c.hT n = some o → (look c.hS n).isSome = true ∨ c.M ≤ n
structure Inv (ρ : Nat → Int) (P : Program) (ops : Array Oper) (B : List (List Nat)) (nx0 : Nat) (env0 : Env) (H0 : Heap) (cs : List Cert) (acc : List Ce) (env : Env) (nx : Nat) (H : Heap) : Prop where
  op : ∀ (j : Nat) c, cs[j]? = some c → ops[j]? = some c.o
  ok : ∀ (j : Nat) c, cs[j]? = some c → COk0 ρ P ops c
  mm : ∀ (j : Nat) c, cs[j]? = some c → nx0 ≤ c.M ∧ c.M ≤ c.M' ∧ c.M' ≤ nx
  mono : ∀ (i j : Nat) a b, cs[i]? = some a → cs[j]? = some b → i < j → a.M' ≤ b.M
  envq : ∀ k, look env k = (cs.foldl (fun f c => upE c f) (look env0)) k
  hq : ∀ n, look H n = (cs.foldl (fun f c => upH c f) (look H0)) n
  rE : ∀ (j : Nat) c, cs[j]? = some c → ∀ q x, look c.eS q = some x → ((cs.take j).foldl (fun f c => upE c f) (look env0)) q = some x ∧ q ∈ slotsOf ops c.o
  rH : ∀ (j : Nat) c, cs[j]? = some c → ∀ n o, look c.hS n = some o → ((cs.take j).foldl (fun f c => upH c f) (look H0)) n = some o
  bef : ∀ (j : Nat) c, cs[j]? = some c → c.bef = B.getD j []
  hTN : ∀ (j : Nat) c, cs[j]? = some c → ∀ n o, look c.hT n = some o → n < c.M'
  kd0 : ∀ (j : Nat) c, cs[j]? = some c → okind c.o.op = 0 → c.hS = []
  kd1 : ∀ (j : Nat) c, cs[j]? = some c → okind c.o.op < 2 → c.hT = [] ∧ c.M = c.M'
  free : ∀ (i j : Nat) a b, cs[i]? = some a → cs[j]? = some b → i < j → i ∉ b.bef → careB a.o b.o = true → Free a b
  acc : acc = (cs.map toCe).reverse
  nx : nx0 ≤ nx
section
variable {ops : Array Oper} {B : List (List Nat)} {nx0 : Nat} {env0 : Env} {H0 : Heap}
theorem Inv.snoc {cs : List Cert} {acc : List Ce} {env env' : Env} {nx nx' : Nat} {H H' : Heap} (h : Inv ρ P ops B nx0 env0 H0 cs acc env nx H) {c : Cert} (ho : ops[cs.length]? = some c.o) (hc : COk0 ρ P ops c) (hm : c.M = nx) (hm' : c.M' = nx') (hle : nx ≤ nx')
    (he : ∀ k, look env' k = upE c (look env) k) (hh : ∀ n, look H' n = upH c (look H) n) (hrE : ∀ q x, look c.eS q = some x → look env q = some x ∧ q ∈ slotsOf ops c.o) (hrH : ∀ n o, look c.hS n = some o → look H n = some o)
    (hb : c.bef = B.getD cs.length []) (hTN : ∀ n o, look c.hT n = some o → n < c.M') (hk0 : okind c.o.op = 0 → c.hS = []) (hk1 : okind c.o.op < 2 → c.hT = [] ∧ c.M = c.M')
    (hf : ∀ (i : Nat) a, cs[i]? = some a → i ∉ c.bef → careB a.o c.o = true → Free a c) : Inv ρ P ops B nx0 env0 H0 (cs ++ [c]) (toCe c :: acc) env' nx' H' := by
  have hget : ∀ (j : Nat) d, (cs ++ [c])[j]? = some d → (cs[j]? = some d ∧ j < cs.length) ∨ (j = cs.length ∧ d = c) := by
    intro j d hj
    rw [List.getElem?_append] at hj
    split at hj
    · rename_i hlt; exact .inl ⟨hj, hlt⟩
    · rename_i hge
      have hz : j - cs.length = 0 := by have := (List.getElem?_eq_some_iff.1 hj).1; simp at this; omega
      rw [hz] at hj
      simp at hj
      exact .inr ⟨by omega, hj.symm⟩
  have hE1 : ∀ k, ((cs ++ [c]).foldl (fun f c => upE c f) (look env0)) k = upE c (look env) k := by
    intro k
    simp only [List.foldl_append, List.foldl_cons, List.foldl_nil, upE]
    split
    · rfl
    · exact (h.envq k).symm
  have hH1 : ∀ k, ((cs ++ [c]).foldl (fun f c => upH c f) (look H0)) k = upH c (look H) k := by
    intro k
    simp only [List.foldl_append, List.foldl_cons, List.foldl_nil, upH]
    split
    · rfl
    · exact (h.hq k).symm
  have one : ∀ {R : Nat → Cert → Prop}, (∀ (j : Nat) d, cs[j]? = some d → R j d) → R cs.length c → ∀ (j : Nat) d, (cs ++ [c])[j]? = some d → R j d := by
    intro R h1 h2 j d hj
    rcases hget j d hj with ⟨a, _⟩ | ⟨rfl, rfl⟩
    · exact h1 j d a
    · exact h2
  refine ⟨one h.op ho, one h.ok hc, one (fun j d hj => by have := h.mm j d hj; omega) (by have := h.nx; omega), ?_, fun k => by rw [he, hE1], fun k => by rw [hh, hH1], ?_, ?_, one h.bef hb, one h.hTN hTN, one h.kd0 hk0, one h.kd1 hk1, ?_, ?_, Nat.le_trans h.nx hle⟩
  · intro i j a b hi hj hlt
    rcases hget j b hj with ⟨b1, b2⟩ | ⟨rfl, rfl⟩
    · rcases hget i a hi with ⟨a1, _⟩ | ⟨rfl, rfl⟩
      · exact h.mono i j a b a1 b1 hlt
      · omega
    · rcases hget i a hi with ⟨a1, _⟩ | ⟨rfl, rfl⟩
      · have := h.mm i a a1; omega
      · omega
  · intro j d hj
    rcases hget j d hj with ⟨a, hlt⟩ | ⟨rfl, rfl⟩
    · rw [List.take_append_of_le_length (by omega)]; exact h.rE j d a
    · intro q x hq
      rw [List.take_append_of_le_length (Nat.le_refl _), List.take_length]
      rw [← h.envq]; exact hrE q x hq
  · intro j d hj
    rcases hget j d hj with ⟨a, hlt⟩ | ⟨rfl, rfl⟩
    · rw [List.take_append_of_le_length (by omega)]; exact h.rH j d a
    · intro q x hq
      rw [List.take_append_of_le_length (Nat.le_refl _), List.take_length]
      rw [← h.hq]; exact hrH q x hq
  · intro i j a b hi hj hlt hn hcare
    rcases hget j b hj with ⟨b1, b2⟩ | ⟨rfl, rfl⟩
    · rcases hget i a hi with ⟨a1, _⟩ | ⟨rfl, rfl⟩
      · exact h.free i j a b a1 b1 hlt hn hcare
      · omega
    · rcases hget i a hi with ⟨a1, _⟩ | ⟨rfl, rfl⟩
      · exact hf i a a1 hn hcare
      · omega
  · rw [List.map_append, List.reverse_append, h.acc]; rfl
theorem guard_same {env env' : Env} {o : Oper} {t e : Bool} (h : ∀ q ∈ slotsOf ops o, look env q = look env' q) : guard ops env o.guard t e = guard ops env' o.guard t e := by
  cases hg : o.guard with
  | none => rfl
  | some p =>
    obtain ⟨j, w⟩ := p
    show ob (gslot ops j) (fun d => ob (look env d) fun v => gval v w t e) = ob (gslot ops j) (fun d => ob (look env' d) fun v => gval v w t e)
    cases hs : gslot ops j with
    | none => rfl
    | some d =>
      have : d ∈ slotsOf ops o := by unfold slotsOf; rw [hg]; simp [hs]
      show ob (look env d) _ = ob (look env' d) _
      rw [h d this]
theorem leftB_ok {kd : Nat} {b : Ce} (h : leftB kd b = true) : b.M ≤ b.M' ∧ (kd < 2 → b.hT = [] ∧ b.M = b.M') ∧ ∀ n o, look b.hT n = some o → n < b.M' ∧ ((look b.hS n).isSome = true ∨ b.M ≤ n) := by
  obtain ⟨h0, h⟩ := oc_inv h
  refine ⟨Nat.le_of_ble_eq_true h0, ?_⟩
  rcases ow_inv h with ⟨h1, h⟩ | ⟨h1, h⟩
  · refine ⟨fun hk => by have := Nat.le_of_ble_eq_true h1; omega, fun n o hn => ?_⟩
    obtain ⟨q1, q2⟩ := oc_inv (allB_inv h _ (look_mem hn))
    refine ⟨Nat.le_of_ble_eq_true q1, ?_⟩
    rcases ow_inv q2 with ⟨q3, _⟩ | ⟨_, q4⟩
    · exact .inr (Nat.le_of_ble_eq_true q3)
    · left
      cases hq : look b.hS n with
      | some x => rfl
      | none => simp only [hq] at q4; cases q4
  · obtain ⟨h2, h3⟩ := oc_inv h
    rw [nilB_eq, List.isEmpty_iff] at h2
    exact ⟨fun _ => ⟨h2, Nat.eq_of_beq_eq_true h3⟩, fun n o hn => by rw [h2, look_nil] at hn; cases hn⟩
theorem drawGo_ok (hD : OkD D ρ) {call : CallK} (hc : CallOk ρ P call) {ps0 : List (List Nat)} (hps0 : ∀ (j : Nat) o, ops[j]? = some o → ∃ fs, ps0[j]? = some fs ∧ ∀ (i : Nat) a, i < j → ops[i]? = some a → i ∉ B.getD j [] → careB a o = true → j - 1 - i ∈ fs) : ∀ {l : List Oper} {ps : List (List Nat)} {cs : List Cert} {acc : List Ce} {env nx H} {k : KC}, Inv ρ P ops B nx0 env0 H0 cs acc env nx H → ops.toList = cs.map (·.o) ++ l →
    ps = ps0.drop cs.length → drawGo P D call ops l ps acc env nx H k = true → ∃ cs' acc' env' nx' H', Inv ρ P ops B nx0 env0 H0 cs' acc' env' nx' H' ∧ cs'.length = ops.size ∧ k .normal env' nx' H' = true ∧ Suf H H'
  | [], ps, cs, acc, env, nx, H, k, hi, hl, hp, h => by
    refine ⟨cs, acc, env, nx, H, hi, ?_, h, Suf.refl H⟩
    have := congrArg List.length hl
    simpa using this.symm
  | o :: l, ps, cs, acc, env, nx, H, k, hi, hl, hp, h => by
    have hlt : cs.length < ops.size := by have := congrArg List.length hl; simp at this; omega
    have hop : ops[cs.length]? = some o := by
      rw [← Array.getElem?_toList, hl, List.getElem?_append_right (by simp)]
      simp
    cases ps with
    | nil => cases (show false = true from h)
    | cons fs ps' =>
      obtain ⟨fs0, hf0, hfs⟩ := hps0 cs.length o hop
      have hdrop : ps0.drop cs.length = fs0 :: ps0.drop (cs.length + 1) := by
        have hlt2 := (List.getElem?_eq_some_iff.1 hf0).1
        rw [List.drop_eq_getElem_cons hlt2]
        rw [(List.getElem?_eq_some_iff.1 hf0).2]
      rw [hdrop] at hp
      obtain ⟨hfs0, hps⟩ := List.cons.inj hp
      rw [← hfs0] at hfs
      have h : guard ops env o.guard (oOp P D o.op call env nx (givenH o.op env H) (forceK fun v nx' H' => ob (takeN (Nat.sub (len H') (len (givenH o.op env H))) H') fun hT =>
          oc (leftB (okind o.op) ⟨v, givenH o.op env H, hT, nx, nx'⟩) (oc (freeAll acc ⟨v, givenH o.op env H, hT, nx, nx'⟩ fs) (drawGo P D call ops l ps' (⟨v, givenH o.op env H, hT, nx, nx'⟩ :: acc) (putE o.dst v env) nx' (app hT H) k))))
        (drawGo P D call ops l ps' (⟨undefM, [], [], nx, nx⟩ :: acc) (putE o.dst undefM env) nx H k) = true := h
      let eS : Env := selM env (slotsOf ops o)
      have hsl : ∀ q ∈ slotsOf ops o, look env q = look eS q := fun q hq => by simp only [eS]; rw [look_selM, if_pos hq]
      have heS : ∀ q x, look eS q = some x → look env q = some x ∧ q ∈ slotsOf ops o := fun q x hq => by
        simp only [eS] at hq
        rw [look_selM] at hq
        split at hq
        · rename_i hm; exact ⟨hq, hm⟩
        · cases hq
      rw [guard_same hsl] at h
      obtain ⟨b, hb, hw⟩ := guard_inv (ρ := ρ) h
      have hput : ∀ (v : MV) k', look (putE o.dst v env) k' = if o.dst = some k' then some v else look env k' := by
        intro v k'
        cases hd : o.dst with
        | none => simp [putE]
        | some d =>
          show look ((d, v) :: env) k' = _
          rw [look_cons]
          by_cases e : d = k'
          · subst e; simp
          · simp [e]
      cases b with
      | false =>
        have hb : drawGo P D call ops l ps' (⟨undefM, [], [], nx, nx⟩ :: acc) (putE o.dst undefM env) nx H k = true := hb
        let c : Cert := ⟨o, undefM, eS, [], [], nx, nx, B.getD cs.length []⟩
        have hi' := hi.snoc (c := c) (env' := putE o.dst undefM env) (nx' := nx) (H' := H) hop ⟨false, fun e => (by cases e), fun _ => ⟨rfl, rfl⟩, fun hs => hw hs o rfl, fun n o hn => (by cases (show (none : Option MO) = some o from hn))⟩ rfl rfl (Nat.le_refl _)
          (fun k' => hput undefM k') (fun n => by simp [upH, Cert.touches, c, look_nil]) heS (fun n o hn => (by cases (show (none : Option MO) = some o from hn))) rfl (fun n o hn => (by cases (show (none : Option MO) = some o from hn))) (fun _ => rfl) (fun _ => ⟨rfl, rfl⟩)
          (fun i a ha hn hcare => ⟨fun n hn => ⟨rfl, rfl⟩, fun n hn => (by cases (show (false : Bool) = true from hn)), by
            by_cases hM : a.M = a.M'
            · exact .inl hM
            · exact .inr ⟨rfl, fun n o hn => (by cases (show (none : Option MO) = some o from hn))⟩⟩)
        exact drawGo_ok hD hc hps0 hi' (by rw [hl]; simp [c]) (by rw [hps]; simp) hb
      | true =>
        have hb : oOp P D o.op call env nx (givenH o.op env H) _ = true := hb
        rw [oOp_same (env' := eS) o.op (fun t ht => hsl t (by unfold slotsOf; exact List.mem_append_right _ ht))] at hb
        obtain ⟨v, nx1, H1, h1, h2, d, hd⟩ := oOp_ok hD o.op hc hb
        rw [forceK_eq] at h2
        obtain ⟨hT, h3, h2⟩ := ob_inv h2
        obtain ⟨h4, h2⟩ := oc_inv h2
        obtain ⟨h5, h2⟩ := oc_inv h2
        have hTd : hT = d := by
          obtain ⟨t1, t2⟩ := takeN_some h3
          rw [t1, hd, len_eq, len_eq]
          simp
        subst hTd
        obtain ⟨hle, l1, l2⟩ := leftB_ok h4
        let c : Cert := ⟨o, v, eS, givenH o.op env H, hT, nx, nx1, B.getD cs.length []⟩
        have hlook : ∀ n, look (app hT H) n = upH c (look H) n := by
          intro n
          rw [app_eq, look_app]
          show (look hT n).or (look H n) = if (look hT n).isSome then look hT n else look H n
          cases look hT n with
          | none => rfl
          | some x => rfl
        have hi' := hi.snoc (c := c) (env' := putE o.dst v env) (nx' := nx1) (H' := app hT H) hop ⟨true, fun _ c' => (by have := h1 o c' rfl; rw [hd] at this; exact this), fun e => (by cases e), fun hs => hw hs o rfl, fun n o hn => (l2 n o hn).2⟩ rfl rfl hle
          (fun k' => hput v k') hlook heS sub_given rfl (fun n o hn => (l2 n o hn).1) (fun hk => given_zero hk) l1
          (fun i a ha hn hcare => by
            have hil : i < cs.length := (List.getElem?_eq_some_iff.1 ha).1
            have hmem : cs.length - 1 - i ∈ fs := hfs i a.o hil (hi.op i a ha) hn hcare
            obtain ⟨x, hx1, hx2⟩ := ob_inv (allB_inv h5 _ hmem)
            rw [nth_eq, hi.acc, List.getElem?_reverse (by simp; omega)] at hx1
            have e : (cs.map toCe).length - 1 - (cs.length - 1 - i) = i := by simp; omega
            rw [e, List.getElem?_map, ha] at hx1
            cases hx1
            exact freeB_ok hx2)
        obtain ⟨cs', acc', env', nx', H', r1, r2, r3, r4⟩ := drawGo_ok hD hc hps0 hi' (by rw [hl]; simp [c]) (by rw [hps]; simp) h2
        exact ⟨cs', acc', env', nx', H', r1, r2, r3, Suf.trans ⟨hT, by rw [app_eq]⟩ r4⟩
end
end
end Go.Proofs.YtnajikpdnccilaaGreat.Pv.M
