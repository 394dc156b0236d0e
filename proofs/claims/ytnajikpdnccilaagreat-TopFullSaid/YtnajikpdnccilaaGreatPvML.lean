/- A region that draws its order: what the kernel works out is so (3). -/
import Derived.Test.YtnajikpdnccilaaGreatPvMZ
set_option linter.unusedVariables false
set_option linter.unusedSimpArgs false
namespace Go.Proofs.YtnajikpdnccilaaGreat.Pv.M
open Go

section
variable {ρ : Nat → Int} {P : Program} {D : Dm} {ops : Array Oper}
theorem bt_eq (m i : Nat) : bt m i = m.testBit i := by
  have e : Nat.land (Nat.shiftRight m i) 1 = (m >>> i) % 2 := Nat.and_one_is_mod _
  unfold bt
  rw [e, Nat.testBit_eq_decide_div_mod_eq, ← Nat.shiftRight_eq_div_pow]
  by_cases h : (m >>> i) % 2 = 1
  · rw [h, decide_eq_true rfl]; rfl
  · rw [decide_eq_false h]
    cases hb : Nat.beq ((m >>> i) % 2) 1 with
    | false => rfl
    | true => exact absurd (Nat.eq_of_beq_eq_true hb) h
theorem bt_or (a b i : Nat) : bt (Nat.lor a b) i = (bt a i || bt b i) := by
  rw [bt_eq, bt_eq, bt_eq]; exact Nat.testBit_or a b i
theorem bt_one (k i : Nat) : bt (Nat.shiftLeft 1 k) i = decide (k = i) := by
  rw [bt_eq, show Nat.shiftLeft 1 k = 2 ^ k from by rw [show Nat.shiftLeft 1 k = 1 <<< k from rfl, Nat.shiftLeft_eq, Nat.one_mul]]
  exact Nat.testBit_two_pow
theorem bt_zero (i : Nat) : bt 0 i = false := by rw [bt_eq]; exact Nat.zero_testBit i
theorem bt_and {a b i : Nat} (h : Nat.beq (Nat.land a b) 0 = true) (ha : bt a i = true) : bt b i = false := by
  have e := Nat.eq_of_beq_eq_true h
  have h1 : (Nat.land a b).testBit i = (a.testBit i && b.testBit i) := Nat.testBit_and a b i
  rw [e, Nat.zero_testBit] at h1
  rw [bt_eq] at ha ⊢
  rw [ha] at h1
  simpa using h1.symm
theorem orL_ok (l : List Nat) (i : Nat) : bt (orL l) i = l.contains i := by
  induction l with
  | nil => exact bt_zero i
  | cons k l ih =>
    show bt (Nat.lor (Nat.shiftLeft 1 k) (orL l)) i = _
    rw [bt_or, bt_one, ih, List.contains_cons]
    congr 1
    by_cases h : k = i
    · subst h; simp
    · rw [decide_eq_false h]; symm; simp; exact fun e => h e.symm
theorem wMask_ok (o : Oper) (i : Nat) : bt (wMask o) i = true ↔ o.dst = some i := by
  unfold wMask
  cases o.dst with
  | none => simp [bt_zero]
  | some k => show bt (Nat.shiftLeft 1 k) i = true ↔ _; rw [bt_one]; simp
theorem fNo_eq {α : Type} (n : Nat) (k : Nat → α) : fNo n k = k n := by cases n <;> rfl
theorem bindsB_eq (e : Edge) : bindsB e = Region.binds .any e := by
  obtain ⟨o, g⟩ := e
  cases g <;> rfl
theorem careK_eq (a b : Oper) : careK (okind a.op) (okind b.op) = careB a b := by
  unfold careK careB
  cases Nat.ble 2 (okind a.op) with
  | true => rfl
  | false => cases Nat.ble 1 (okind a.op) <;> rfl
theorem maskE_ok {ms : List Nat} {j : Nat} : ∀ {l : List Edge} {m : Nat}, maskE ms j l = some m → (∀ e ∈ l, Region.binds .any e = true → e.on < j) ∧
    ∀ i, bt m i = true → ∃ e ∈ l, Region.binds .any e = true ∧ (i = e.on ∨ ∃ m', ms[j - 1 - e.on]? = some m' ∧ bt m' i = true)
  | [], m, h => by
    have h : some 0 = some m := h
    cases h
    exact ⟨fun e he => (by cases he), fun i hi => (by rw [bt_zero] at hi; cases hi)⟩
  | e :: l, m, h => by
    have h : (Bool.rec (motive := fun _ => Option Nat) (maskE ms j l) (Bool.rec (motive := fun _ => Option Nat) none (bo (nth ms (Nat.sub (Nat.sub j 1) e.on)) fun m => bo (maskE ms j l) fun r => some (Nat.lor (Nat.lor (Nat.shiftLeft 1 e.on) m) r)) (Nat.ble (Nat.succ e.on) j)) (bindsB e) : Option Nat) = some m := h
    cases hb : bindsB e with
    | false =>
      rw [hb] at h
      obtain ⟨h1, h2⟩ := maskE_ok (l := l) h
      rw [bindsB_eq] at hb
      refine ⟨fun f hf hbf => ?_, fun i hi => ?_⟩
      · rcases List.mem_cons.1 hf with rfl | hf
        · rw [hb] at hbf; cases hbf
        · exact h1 f hf hbf
      · obtain ⟨f, hf, r⟩ := h2 i hi
        exact ⟨f, List.mem_cons_of_mem _ hf, r⟩
    | true =>
      rw [hb] at h
      cases hl : Nat.ble (Nat.succ e.on) j with
      | false => rw [hl] at h; cases (show (none : Option Nat) = some m from h)
      | true =>
        rw [hl] at h
        obtain ⟨m', h3, h⟩ := bo_some (show bo (nth ms (Nat.sub (Nat.sub j 1) e.on)) _ = some m from h)
        obtain ⟨r, h4, h⟩ := bo_some h
        cases h
        obtain ⟨h1, h2⟩ := maskE_ok (l := l) h4
        rw [bindsB_eq] at hb
        rw [nth_eq] at h3
        refine ⟨fun f hf hbf => ?_, fun i hi => ?_⟩
        · rcases List.mem_cons.1 hf with rfl | hf
          · exact Nat.le_of_ble_eq_true hl
          · exact h1 f hf hbf
        · rw [bt_or, bt_or, bt_one] at hi
          simp only [Bool.or_eq_true, decide_eq_true_eq] at hi
          rcases hi with (hi | hi) | hi
          · exact ⟨e, List.mem_cons_self, hb, .inl hi.symm⟩
          · exact ⟨e, List.mem_cons_self, hb, .inr ⟨m', h3, hi⟩⟩
          · obtain ⟨f, hf, q⟩ := h2 i hi
            exact ⟨f, List.mem_cons_of_mem _ hf, q⟩
theorem scan_ok {j m w r kd : Nat} : ∀ {acc : List Pi} {fs : List Nat}, scan j m w r kd acc = some fs → ∀ p ∈ acc, bt m p.i = false → (Nat.beq (Nat.land p.w (Nat.lor w r)) 0 = true ∧ Nat.beq (Nat.land w p.r) 0 = true) ∧ (careK p.kd kd = true → j - 1 - p.i ∈ fs)
  | [], fs, h, p, hp, _ => by cases hp
  | q :: acc, fs, h, p, hp, hb => by
    have h : (Bool.rec (motive := fun _ => Option (List Nat)) (Bool.rec (motive := fun _ => Option (List Nat)) none (Bool.rec (motive := fun _ => Option (List Nat)) (scan j m w r kd acc) (bo (scan j m w r kd acc) fun l => some (Nat.sub (Nat.sub j 1) q.i :: l)) (careK q.kd kd)) (oc (Nat.beq (Nat.land q.w (Nat.lor w r)) 0) (Nat.beq (Nat.land w q.r) 0))) (scan j m w r kd acc) (bt m q.i) : Option (List Nat)) = some fs := h
    cases h1 : bt m q.i with
    | true =>
      rw [h1] at h
      rcases List.mem_cons.1 hp with rfl | hp
      · rw [hb] at h1; cases h1
      · exact scan_ok (acc := acc) h p hp hb
    | false =>
      rw [h1] at h
      cases h2 : oc (Nat.beq (Nat.land q.w (Nat.lor w r)) 0) (Nat.beq (Nat.land w q.r) 0) with
      | false => rw [h2] at h; cases (show (none : Option (List Nat)) = some fs from h)
      | true =>
        rw [h2] at h
        have hcl := oc_inv h2
        cases h3 : careK q.kd kd with
        | false =>
          rw [h3] at h
          rcases List.mem_cons.1 hp with rfl | hp
          · exact ⟨hcl, fun e => by rw [h3] at e; cases e⟩
          · exact scan_ok (acc := acc) h p hp hb
        | true =>
          rw [h3] at h
          obtain ⟨l, h4, h5⟩ := bo_some (show bo (scan j m w r kd acc) _ = some fs from h)
          cases h5
          rcases List.mem_cons.1 hp with rfl | hp
          · exact ⟨hcl, fun _ => List.mem_cons_self⟩
          · obtain ⟨a, b⟩ := scan_ok h4 p hp hb
            exact ⟨a, fun e => List.mem_cons_of_mem _ (b e)⟩
/-- What a plan says of an operation. -/
structure PosOk (ops : Array Oper) (M : List Nat) (j : Nat) (o : Oper) (fs : List Nat) : Prop where
  back : ∀ e ∈ o.after.toList, Region.binds .any e = true → e.on < j
  edge : ∃ mj, M[j]? = some mj ∧ (∀ i, bt mj i = true → ∃ e ∈ o.after.toList, Region.binds .any e = true ∧ (i = e.on ∨ ∃ m', M[e.on]? = some m' ∧ bt m' i = true)) ∧
    ∀ (i : Nat) a, i < j → ops[i]? = some a → bt mj i = false → slotB ops a o = true ∧ (careB a o = true → j - 1 - i ∈ fs)
theorem slot_of {a b : Oper} (h1 : Nat.beq (Nat.land (wMask a) (Nat.lor (wMask b) (orL (slotsOf ops b)))) 0 = true) (h2 : Nat.beq (Nat.land (wMask b) (orL (slotsOf ops a))) 0 = true) : slotB ops a b = true := by
  have A : ∀ k, a.dst = some k → b.dst ≠ some k ∧ (slotsOf ops b).contains k = false := fun k hk => by
    have := bt_and h1 ((wMask_ok a k).2 hk)
    rw [bt_or, orL_ok] at this
    simp only [Bool.or_eq_false_iff] at this
    refine ⟨fun e => ?_, this.2⟩
    rw [(wMask_ok b k).2 e] at this
    cases this.1
  have B : ∀ k, b.dst = some k → (slotsOf ops a).contains k = false := fun k hk => by
    have := bt_and h2 ((wMask_ok b k).2 hk)
    rw [orL_ok] at this; exact this
  unfold slotB
  simp only [Bool.and_eq_true]
  constructor
  · cases ha : a.dst with
    | none => rfl
    | some k =>
      obtain ⟨q1, q2⟩ := A k ha
      simp only [q2, Bool.not_false, Bool.and_true, bne_iff_ne, ne_eq]
      exact q1
  · cases hb : b.dst with
    | none => rfl
    | some k => simp only [B k hb, Bool.not_false]
theorem planGo_ok : ∀ {l : List Oper} {j : Nat} {acc : List Pi} {ms : List Nat} {ps : List (List Nat)}, planGo ops l j acc ms = some ps → ms.length = j → (∀ (i : Nat) a, i < j → ops[i]? = some a → pinfo ops i a ∈ acc) → ops.toList.drop j = l →
    ∃ M', ps.length = l.length ∧ ∀ (q : Nat) o, l[q]? = some o → ∃ fs, ps[q]? = some fs ∧ PosOk ops (ms.reverse ++ M') (j + q) o fs
  | [], j, acc, ms, ps, h, _, _, _ => by
    have h : some [] = some ps := h
    cases h
    exact ⟨[], rfl, fun q o hq => by simp at hq⟩
  | o :: l, j, acc, ms, ps, h, hj, hacc, hdrop => by
    obtain ⟨m, h1, h⟩ := bo_some (show bo (maskE ms j o.after.toList) (fun m => fNo m fun m => piK (pinfo ops j o) fun w r kd => bo (scan j m w r kd acc) fun fs => fNo (Nat.succ j) fun j' => bo (planGo ops l j' (⟨j, w, r, kd⟩ :: acc) (m :: ms)) fun ps => some (fs :: ps)) = some ps from h)
    rw [fNo_eq, piK, fNo_eq, fNo_eq, fNo_eq] at h
    obtain ⟨fs, h2, h⟩ := bo_some h
    rw [fNo_eq] at h
    obtain ⟨ps', h3, h⟩ := bo_some h
    cases h
    have hop : ops[j]? = some o := by
      have : (ops.toList.drop j)[0]? = some o := by rw [hdrop]; rfl
      simpa using this
    obtain ⟨M', k1, k2⟩ := planGo_ok h3 (by simp [hj]) (fun i a hi ha => by
      by_cases e : i = j
      · subst e; rw [hop] at ha; cases ha; exact List.mem_cons_self
      · exact List.mem_cons_of_mem _ (hacc i a (by omega) ha)) (by rw [show Nat.succ j = j + 1 from rfl, ← List.drop_drop, hdrop]; rfl)
    refine ⟨m :: M', by simp [k1], fun q o' hq => ?_⟩
    have hM : (m :: ms).reverse ++ M' = ms.reverse ++ m :: M' := by simp
    cases q with
    | succ q =>
      obtain ⟨fs', a, b⟩ := k2 q o' (by simpa using hq)
      rw [hM] at b
      exact ⟨fs', by simpa using a, by rw [show j + (q + 1) = Nat.succ j + q from by omega]; exact b⟩
    | zero =>
      simp at hq
      subst hq
      obtain ⟨e1, e2⟩ := maskE_ok h1
      refine ⟨fs, rfl, e1, m, ?_, fun i hi => ?_, fun i a hi ha hb => ?_⟩
      · rw [Nat.add_zero, List.getElem?_append_right (by simp [hj])]; simp [hj]
      · obtain ⟨e, he, hbd, hor⟩ := e2 i hi
        refine ⟨e, he, hbd, hor.imp id fun ⟨m', a, b⟩ => ⟨m', ?_, b⟩⟩
        have hlt := e1 e he hbd
        rw [List.getElem?_append_left (by simp [hj]; omega), List.getElem?_reverse (by omega), hj]; exact a
      · rw [Nat.add_zero] at hi
        obtain ⟨⟨c1, c2⟩, c3⟩ := scan_ok h2 _ (hacc i a hi ha) hb
        refine ⟨slot_of c1 c2, fun hc => ?_⟩
        rw [Nat.add_zero]
        exact c3 (by rw [← careK_eq] at hc; exact hc)
/-- What a plan gives. -/
structure PlanB (ops : Array Oper) (B : List (List Nat)) (ps : List (List Nat)) : Prop where
  back : ∀ (j : Nat) o, ops[j]? = some o → ∀ e ∈ o.after, Region.binds .any e = true → e.on < j
  edge : ∀ (j : Nat) o, ops[j]? = some o → ∀ i ∈ B.getD j [], ∃ e ∈ o.after, Region.binds .any e = true ∧ (i = e.on ∨ i ∈ B.getD e.on [])
  slot : ∀ (i j : Nat) a b, ops[i]? = some a → ops[j]? = some b → i < j → i ∉ B.getD j [] → slotB ops a b = true
  fs : ∀ (j : Nat) o, ops[j]? = some o → ∃ fs, ps[j]? = some fs ∧ ∀ (i : Nat) a, i < j → ops[i]? = some a → i ∉ B.getD j [] → careB a o = true → j - 1 - i ∈ fs
theorem planF_ok {ps : List (List Nat)} (h : planF ops = some ps) : ∃ B, PlanB ops B ps := by
  obtain ⟨M, h1, h2⟩ := planGo_ok (show planGo ops ops.toList 0 [] [] = some ps from h) rfl (fun i a hi => by omega) rfl
  have hB : ∀ j i, i ∈ (M.map fun m => (List.range ops.size).filter (bt m)).getD j [] ↔ ∃ m, M[j]? = some m ∧ i < ops.size ∧ bt m i = true := by
    intro j i
    rw [List.getD_eq_getElem?_getD, List.getElem?_map]
    cases hm : M[j]? with
    | none => simp
    | some m => simp [List.mem_filter]
  have pos : ∀ (j : Nat) o, ops[j]? = some o → ∃ fs, ps[j]? = some fs ∧ PosOk ops M j o fs := by
    intro j o ho
    obtain ⟨fs, a, b⟩ := h2 j o (by rw [Array.getElem?_toList]; exact ho)
    rw [List.reverse_nil, List.nil_append, Nat.zero_add] at b
    exact ⟨fs, a, b⟩
  have nin : ∀ {i j : Nat} {a : Oper} {mj : Nat}, ops[i]? = some a → M[j]? = some mj → i ∉ (M.map fun m => (List.range ops.size).filter (bt m)).getD j [] → bt mj i = false := by
    intro i j a mj ha hj hn
    cases hq : bt mj i with
    | false => rfl
    | true => exact absurd ((hB j i).2 ⟨mj, hj, (Array.getElem?_eq_some_iff.1 ha).1, hq⟩) hn
  refine ⟨M.map fun m => (List.range ops.size).filter (bt m), ⟨fun j o ho e he hb => ?_, fun j o ho i hi => ?_, fun i j a b ha hb hlt hn => ?_, fun j o ho => ?_⟩⟩
  · obtain ⟨fs, _, b⟩ := pos j o ho
    exact b.back e (by simpa using he) hb
  · obtain ⟨fs, _, b⟩ := pos j o ho
    obtain ⟨mj, m1, m2, m3⟩ := b.edge
    obtain ⟨m, e1, e2, e3⟩ := (hB j i).1 hi
    rw [m1] at e1; cases e1
    obtain ⟨e, he, hbd, hor⟩ := m2 i e3
    exact ⟨e, by simpa using he, hbd, hor.imp id fun ⟨m', a, b⟩ => (hB e.on i).2 ⟨m', a, e2, b⟩⟩
  · obtain ⟨fs, _, c⟩ := pos j b hb
    obtain ⟨mj, m1, m2, m3⟩ := c.edge
    exact (m3 i a hlt ha (nin ha m1 hn)).1
  · obtain ⟨fs, a1, c⟩ := pos j o ho
    obtain ⟨mj, m1, m2, m3⟩ := c.edge
    exact ⟨fs, a1, fun i a hlt ha hn hc => (m3 i a hlt ha (nin ha m1 hn)).2 hc⟩
theorem slotB_ok {a b : Oper} (h : slotB ops a b = true) : (∀ k, a.dst = some k → b.dst ≠ some k ∧ k ∉ slotsOf ops b) ∧ ∀ k, b.dst = some k → k ∉ slotsOf ops a := by
  unfold slotB at h
  simp only [Bool.and_eq_true] at h
  obtain ⟨h1, h2⟩ := h
  constructor
  · intro k hk
    rw [hk] at h1
    simpa using h1
  · intro k hk
    rw [hk] at h2
    simpa using h2
theorem careB_hi {a b : Oper} (h : 2 ≤ okind a.op) : careB a b = true := by
  unfold careB
  rw [Nat.ble_eq_true_of_le h]; rfl
theorem careB_lo {a b : Oper} (h : 1 ≤ okind a.op) (h2 : 2 ≤ okind b.op) : careB a b = true := by
  unfold careB
  rw [Nat.ble_eq_true_of_le h, Nat.ble_eq_true_of_le h2]; simp
theorem foldE_src {k : Nat} {x : MV} : ∀ (cs : List Cert) (f : Nat → Option MV), (cs.foldl (fun f c => upE c f) f) k = some x → (∃ c ∈ cs, c.o.dst = some k) ∨ f k = some x
  | [], f, h => .inr h
  | c :: t, f, h => by
    rcases foldE_src t _ h with ⟨d, hd, e⟩ | h
    · exact .inl ⟨d, List.mem_cons_of_mem _ hd, e⟩
    · by_cases e : c.o.dst = some k
      · exact .inl ⟨c, List.mem_cons_self, e⟩
      · right; simpa [upE, e] using h
theorem Inv.plan {c : Ctx} {nx0 : Nat} {env0 : Env} {H0 : Heap} {cs : List Cert} {acc : List Ce} {env : Env} {nx : Nat} {H : Heap} {B ps : List (List Nat)} (h : Inv ρ P ops B nx0 env0 H0 cs acc env nx H) (hlen : cs.length = ops.size)
    (hst : PlanB ops B ps) (hroom : roomO c.nt ops.toList = true) {φ tmps w} (hs : St ρ c nx0 env0 H0 φ tmps w) : Plan ρ P c.nt c.k nx0 nx ops env0 H0 cs := by
  have hroom1 : ∀ (j : Nat) d, cs[j]? = some d → Option.rec (motive := fun _ => Bool) true (fun d => Nat.ble (Nat.succ d) c.nt) d.o.dst = true := by
    intro j d hj
    have := h.op j d hj
    exact allB_inv hroom d.o (by rw [← Array.getElem?_toList] at this; exact List.mem_of_getElem? this)
  have lo : ∀ {j : Nat} {d : Cert} {n : Nat}, cs[j]? = some d → d.touches n = true → 2 ≤ okind d.o.op := by
    intro j d n hj ht
    by_cases hk : okind d.o.op < 2
    · have e := (h.kd1 j d hj hk).1
      unfold Cert.touches at ht
      rw [e, look_nil] at ht
      cases ht
    · omega
  have lo1 : ∀ {j : Nat} {d : Cert} {n : Nat}, cs[j]? = some d → (look d.hS n).isSome = true → 1 ≤ okind d.o.op := by
    intro j d n hj ht
    by_cases hk : okind d.o.op = 0
    · rw [h.kd0 j d hj hk, look_nil] at ht
      cases ht
    · omega
  refine ⟨hlen, h.op, fun j d hj => ⟨hroom1 j d hj, (h.mm j d hj).2.1, h.ok j d hj⟩, fun j d hj => ⟨(h.mm j d hj).1, (h.mm j d hj).2.2⟩, h.mono, hs.keep.1, h.nx, ?_, ?_, fun j d hj q x hq => (h.rE j d hj q x hq).1, h.rH, ?_, ?_, ?_, ?_⟩
  · intro q x hq
    obtain ⟨v, v1, v2⟩ := hs.env q x hq
    refine ⟨⟨ρ, φ, v, v2⟩, ?_⟩
    rw [← hs.size]
    exact (Array.getElem?_eq_some_iff.1 v1).1
  · intro n o hn
    obtain ⟨a, b⟩ := hs.ok.obj n o hn
    exact ⟨a, ρ, φ, w, b⟩
  · intro j d hj e he hb
    exact hst.back j d.o (h.op j d hj) e he hb
  · intro j d hj i hi
    rw [h.bef j d hj] at hi
    obtain ⟨e, he, hb, hor⟩ := hst.edge j d.o (h.op j d hj) i hi
    refine ⟨e, he, hb, ?_⟩
    rcases hor with hor | hor
    · exact .inl hor
    · right
      have hlt : e.on < cs.length := by
        have h1 := hst.back j d.o (h.op j d hj) e he hb
        have h2 := (List.getElem?_eq_some_iff.1 hj).1
        omega
      refine ⟨cs[e.on], by simp [hlt], ?_⟩
      rw [h.bef e.on _ (by simp [hlt])]
      exact hor
  · intro i j a b hi hj hne hm
    by_cases hlt : i < j
    · refine .inl ⟨hlt, ?_⟩
      refine Classical.byContradiction fun hn => ?_
      have hn' : i ∉ B.getD j [] := by rw [← h.bef j b hj]; exact hn
      obtain ⟨s1, s2⟩ := slotB_ok (hst.slot i j a.o b.o (h.op i a hi) (h.op j b hj) hlt hn')
      rcases hm with ⟨k, k1, k2⟩ | ⟨n, n1, n2⟩
      · obtain ⟨q1, q2⟩ := s1 k k1
        rcases k2 with k2 | k2
        · exact q1 k2
        · obtain ⟨x, hx⟩ := Option.isSome_iff_exists.1 k2
          exact q2 (h.rE j b hj k x hx).2
      · obtain ⟨f1, f2, f3⟩ := h.free i j a b hi hj hlt hn (careB_hi (lo hi n1))
        obtain ⟨g1, g2⟩ := f1 n n1
        rcases n2 with n2 | n2
        · unfold Cert.touches at n2; rw [g1] at n2; cases n2
        · rw [g2] at n2; cases n2
    · have hlt : j < i := by omega
      refine .inr ⟨hlt, ?_⟩
      refine Classical.byContradiction fun hn => ?_
      have hn' : j ∉ B.getD i [] := by rw [← h.bef i a hi]; exact hn
      obtain ⟨s1, s2⟩ := slotB_ok (hst.slot j i b.o a.o (h.op j b hj) (h.op i a hi) hlt hn')
      rcases hm with ⟨k, k1, k2⟩ | ⟨n, n1, n2⟩
      · rcases k2 with k2 | k2
        · exact (s1 k k2).1 k1
        · obtain ⟨x, hx⟩ := Option.isSome_iff_exists.1 k2
          exact s2 k k1 (h.rE j b hj k x hx).2
      · have hc : careB b.o a.o = true := by
          rcases n2 with n2 | n2
          · exact careB_hi (lo hj n2)
          · exact careB_lo (lo1 hj n2) (lo hi n1)
        obtain ⟨f1, f2, f3⟩ := h.free j i b a hj hi hlt hn hc
        rcases n2 with n2 | n2
        · have := (f1 n n2).1
          unfold Cert.touches at n1; rw [this] at n1; cases n1
        · rw [f2 n n1] at n2; cases n2
  · intro i j a b hi hj hlt hs'
    refine Classical.byContradiction fun hn => ?_
    by_cases hk : okind a.o.op < 2
    · exact hs' (silent_none (h.kd1 i a hi hk).2)
    · rcases (h.free i j a b hi hj hlt hn (careB_hi (by omega))).2.2 with e | e
      · exact hs' (silent_none e)
      · exact hs' e
/-- Regions that draw their order are right. -/
theorem drawOk (hm : P.follows .mixedOrders = true) (hD : OkD D ρ) : DrawOk ρ P D := by
  intro call ops env nx H k hc h
  obtain ⟨ps, h1, h⟩ := ob_inv (show ob (planF ops) (fun ps => drawGo P D call ops ops.toList ps [] env nx H k) = true from h)
  obtain ⟨B, hpl⟩ := planF_ok h1
  have hi : Inv ρ P ops B nx env H [] [] env nx H := by
    refine ⟨?_, ?_, ?_, ?_, fun _ => rfl, fun _ => rfl, ?_, ?_, ?_, ?_, ?_, ?_, ?_, rfl, Nat.le_refl _⟩
    all_goals first | exact fun j c hj => by simp at hj | exact fun i j a b hi => by simp at hi
  obtain ⟨cs, acc, env', nx', H', r1, r2, r3, r4⟩ := drawGo_ok hD hc hpl.fs hi (by simp) rfl h
  refine ⟨env', nx', H', r3, r4, fun c id hroom => ?_⟩
  refine WB_draw hm (cs := cs) (fun φ tmps w hs => r1.plan r2 hpl hroom hs) (fun k x hk => ?_) (fun n o hn => ?_) (fun j c hj n o hn => ?_) (fun k x hk => ?_)
  · rw [← r1.envq]; exact hk
  · rw [← r1.hq]; exact hn
  · have a := r1.hTN j c hj n o hn
    have b := (r1.mm j c hj).2.2
    omega
  · rw [r1.envq] at hk
    rcases foldE_src cs _ hk with ⟨d, hd, e⟩ | e
    · left
      obtain ⟨j, hj⟩ := List.getElem?_of_mem hd
      have hop := r1.op j d hj
      have := allB_inv hroom d.o (by rw [← Array.getElem?_toList] at hop; exact List.mem_of_getElem? hop)
      rw [e] at this
      exact Nat.le_of_ble_eq_true this
    · right; rw [e]; rfl
end
end Go.Proofs.YtnajikpdnccilaaGreat.Pv.M
