/- A region that draws its order: what is told in the text's order holds in every order. -/
import Derived.Test.YtnajikpdnccilaaGreatPvS
import Derived.Orders
set_option linter.unusedVariables false
set_option linter.unusedSimpArgs false
namespace Go.Proofs.YtnajikpdnccilaaGreat.Pv
open Go

/-- What one operation reads, uses up, and leaves. -/
structure Cert where
  o : Oper
  pv : Option PV
  eS : Env
  rd : Heap
  hS : Heap
  hT : Heap
  M : Nat
  M' : Nat
  bef : List Nat

def Cert.touches (c : Cert) (n : Nat) : Bool := (look c.hS n).isSome || (look c.hT n).isSome
def upE (c : Cert) (f : Nat → Option PV) : Nat → Option PV := fun k => if c.o.dst = some k then c.pv else f k
def upH (c : Cert) (g : Nat → Option Obj) : Nat → Option Obj := fun n => if c.touches n then look c.hT n else g n

/-- What a row of updates leaves, of those that are done. -/
def fold {α β : Type} (up : Cert → (Nat → Option β) → (Nat → Option β)) (X : Nat → Bool) : List Cert → Nat → (Nat → Option β) → (Nat → Option β)
  | [], _, f => f
  | c :: t, i, f => fold (α := α) up X t (i + 1) (if X i then up c f else f)

section
variable {β : Type}

/-- Updates that write at some places alone. -/
structure Local (up : Cert → (Nat → Option β) → (Nat → Option β)) (wr : Cert → Nat → Bool) (val : Cert → Nat → Option β) : Prop where
  yes : ∀ c f k, wr c k = true → up c f k = val c k
  no : ∀ c f k, wr c k = false → up c f k = f k

theorem fold_agree {up : Cert → (Nat → Option β) → (Nat → Option β)} {wr : Cert → Nat → Bool} {val : Cert → Nat → Option β} (hl : Local up wr val) {X Y : Nat → Bool} {k : Nat} :
    ∀ (cs : List Cert) (i : Nat) (f g : Nat → Option β), f k = g k → (∀ j c, cs[j]? = some c → wr c k = true → X (i + j) = Y (i + j)) → fold (α := Unit) up X cs i f k = fold (α := Unit) up Y cs i g k
  | [], i, f, g, h, _ => h
  | c :: t, i, f, g, h, ha => by
    simp only [fold]
    refine fold_agree hl t (i + 1) _ _ ?_ fun j c' hj hw => by
      have := ha (j + 1) c' (by simpa using hj) hw
      rw [Nat.add_assoc, Nat.add_comm 1 j]; exact this
    cases hw : wr c k with
    | true =>
      have e := ha 0 c rfl hw
      simp only [Nat.add_zero] at e
      rw [e]
      split
      · rw [hl.yes c f k hw, hl.yes c g k hw]
      · exact h
    | false => split <;> split <;> simp [hl.no _ _ _ hw, h]

theorem fold_last {up : Cert → (Nat → Option β) → (Nat → Option β)} {wr : Cert → Nat → Bool} {val : Cert → Nat → Option β} (hl : Local up wr val) {X : Nat → Bool} {k : Nat} :
    ∀ (cs : List Cert) (i : Nat) (f : Nat → Option β) (j : Nat) (c : Cert), cs[j]? = some c → X (i + j) = true → wr c k = true → (∀ q c', cs[q]? = some c' → j < q → wr c' k = true → X (i + q) = false) →
      fold (α := Unit) up X cs i f k = val c k
  | [], i, f, j, c, h, _, _, _ => by simp at h
  | c0 :: t, i, f, 0, c, h, hx, hw, hn => by
    simp at h; subst h
    simp only [Nat.add_zero] at hx
    simp only [fold, hx, if_true]
    have : fold (α := Unit) up X t (i + 1) (up c0 f) k = fold (α := Unit) up (fun _ => false) t (i + 1) (up c0 f) k := fold_agree hl t (i + 1) _ _ rfl fun q c' hq hw' => by
      have := hn (q + 1) c' (by simpa using hq) (by omega) hw'
      rw [Nat.add_assoc, Nat.add_comm 1 q]; exact this
    rw [this]
    have e : ∀ (t : List Cert) (i : Nat) (f : Nat → Option β), fold (α := Unit) up (fun _ => false) t i f = f := by
      intro t; induction t with
      | nil => intros; rfl
      | cons c t ih => intro i f; simp only [fold]; exact ih _ _
    rw [e, hl.yes _ _ _ hw]
  | c0 :: t, i, f, j + 1, c, h, hx, hw, hn => by
    simp only [fold]
    exact fold_last hl t (i + 1) _ j c (by simpa using h) (by rw [Nat.add_assoc, Nat.add_comm 1 j]; exact hx) hw fun q c' hq hjq hw' => by
      have := hn (q + 1) c' (by simpa using hq) (by omega) hw'
      rw [Nat.add_assoc, Nat.add_comm 1 q]; exact this

theorem fold_all {up : Cert → (Nat → Option β) → (Nat → Option β)} : ∀ (cs : List Cert) (i : Nat) (f : Nat → Option β), fold (α := Unit) up (fun _ => true) cs i f = cs.foldl (fun f c => up c f) f
  | [], _, _ => rfl
  | c :: t, i, f => by simp only [fold, if_true, List.foldl_cons]; exact fold_all t (i + 1) _

theorem fold_below {up : Cert → (Nat → Option β) → (Nat → Option β)} : ∀ (cs : List Cert) (i j : Nat) (f : Nat → Option β), fold (α := Unit) up (fun q => decide (q < i + j)) cs i f = (cs.take j).foldl (fun f c => up c f) f
  | [], _, _, _ => by simp [fold]
  | c :: t, i, 0, f => by
    simp only [fold, Nat.add_zero, Nat.lt_irrefl, decide_false, Bool.false_eq_true, if_false, List.take_zero, List.foldl_nil]
    have e : ∀ (t : List Cert) (m : Nat) (f : Nat → Option β), i ≤ m → fold (α := Unit) up (fun q => decide (q < i)) t m f = f := by
      intro t; induction t with
      | nil => intros; rfl
      | cons c t ih => intro m f hm; simp only [fold]; rw [if_neg (by simpa using hm)]; exact ih _ _ (by omega)
    exact e t (i + 1) f (by omega)
  | c :: t, i, j + 1, f => by
    simp only [fold, List.take_succ_cons, List.foldl_cons]
    rw [if_pos (by simp)]
    have := fold_below (up := up) t (i + 1) j (up c f)
    rw [show i + 1 + j = i + (j + 1) by omega] at this
    exact this
end

def wrE (c : Cert) (k : Nat) : Bool := decide (c.o.dst = some k)
theorem localE : Local upE wrE (fun c _ => c.pv) := ⟨fun c f k h => by simp only [upE]; rw [if_pos (by simpa [wrE] using h)], fun c f k h => by simp only [upE]; rw [if_neg (by simpa [wrE] using h)]⟩
theorem localH : Local upH Cert.touches (fun c n => look c.hT n) := ⟨fun c f k h => by simp only [upH]; rw [if_pos h], fun c f k h => by simp only [upH]; rw [if_neg (by simp [h])]⟩

/-- A list out of what stands at each place. -/
def listOf {α : Type} (n : Nat) (f : Nat → Option α) : List (Nat × α) := (List.range n).filterMap fun k => (f k).map fun x => (k, x)

theorem look_listOf {α : Type} (f : Nat → Option α) : ∀ (n k : Nat), look (listOf n f) k = if k < n then f k else none := by
  intro n
  induction n with
  | zero => intro k; simp [listOf, look]
  | succ n ih =>
    intro k
    have e : listOf (n + 1) f = listOf n f ++ (match f n with | some x => [(n, x)] | none => []) := by
      simp only [listOf, List.range_succ, List.filterMap_append]
      congr 1
      cases hf : f n <;> simp [hf]
    rw [e, look_append, ih k]
    by_cases h : k < n
    · rw [if_pos h, if_pos (by omega)]
      cases hf : f k with
      | some x => rfl
      | none =>
        cases hn : f n with
        | none => simp [look]
        | some x => simp [look, show ¬ (n = k) by omega]
    · rw [if_neg h]
      by_cases h2 : k = n
      · subst h2
        rw [if_pos (by omega)]
        cases hn : f k with
        | none => simp [look]
        | some x => simp [look]
      · rw [if_neg (by omega)]
        cases hn : f n with
        | none => simp [look]
        | some x => simp [look, show ¬ (n = k) from fun e => h2 e.symm]

/-- The names that a value speaks of lie outside of a range. -/
def outP (M M' : Nat) (n : Nat) : Bool := decide (n < M) || decide (M' ≤ n)

/-- Is a operation, told in the text's order, what its row says? -/
def CertOk (P : Program) (tab : Tab) (nt : Nat) (ops : Array Oper) (c : Cert) : Prop :=
  dstOk nt c.o.dst = true ∧ c.M ≤ c.M' ∧
  (let run := ∃ p, c.pv = some p ∧ has (fun _ => true) p = true ∧ stepOp P tab c.eS c.M (c.rd ++ c.hS) (fun pv' nx' H' => pv' = p ∧ nx' = c.M' ∧ ∀ n, look H' n = look (c.rd ++ c.hT) n) c.o.op
   match c.o.guard with
   | none => run
   | some (j, want) => ∃ d v, (ops[j]?).bind (·.dst) = some d ∧ look c.eS d = some (.f (.v v)) ∧ (vb v = some want → run) ∧ (vb v ≠ some want → c.pv = some undefP ∧ c.hS = [] ∧ c.hT = []))

/-- Two operations that may come in either order do not meet. -/
def meet (a b : Cert) : Prop :=
  (∃ k, a.o.dst = some k ∧ (b.o.dst = some k ∨ (look b.eS k).isSome = true)) ∨
  (∃ n, a.touches n = true ∧ (b.touches n = true ∨ (look b.rd n).isSome = true))

/-- What b leaves speaks of no name that a makes. -/
def silent (a b : Cert) : Prop :=
  (∀ x, b.pv = some x → has (outP a.M a.M') x = true) ∧ (∀ n o, look b.hT n = some o → outP a.M a.M' n = true ∧ hasO (outP a.M a.M') o = true)

structure Plan (P : Program) (tab : Tab) (nt k0 nx0 N : Nat) (ops : Array Oper) (env0 : Env) (H0 : Heap) (cs : List Cert) : Prop where
  len : cs.length = ops.size
  op : ∀ (j : Nat) c, cs[j]? = some c → ops[j]? = some c.o
  ok : ∀ (j : Nat) c, cs[j]? = some c → CertOk P tab nt ops c
  names : ∀ (j : Nat) c, cs[j]? = some c → nx0 ≤ c.M ∧ c.M' ≤ N
  k : k0 ≤ nx0
  nx : nx0 ≤ N
  envB : ∀ q x, look env0 q = some x → has (fun n => decide (n < nx0)) x = true
  heapB : ∀ n o, look H0 n = some o → n < nx0 ∧ hasO (fun n => decide (n < nx0)) o = true
  /-- What is read is what stands there in the text's order. -/
  readE : ∀ (j : Nat) c, cs[j]? = some c → ∀ q x, look c.eS q = some x → ((cs.take j).foldl (fun f c => upE c f) (look env0)) q = some x ∧ has (fun n => decide (n < c.M)) x = true ∧ q < nt
  readH : ∀ (j : Nat) c, cs[j]? = some c → ∀ n o, look (c.rd ++ c.hS) n = some o → ((cs.take j).foldl (fun f c => upH c f) (look H0)) n = some o ∧ n < c.M ∧ hasO (fun n => decide (n < c.M)) o = true
  /-- New names are new. -/
  fresh : ∀ (j : Nat) c, cs[j]? = some c → ∀ n o, look c.hT n = some o → (look c.hS n).isSome = true ∨ (c.M ≤ n ∧ n < c.M')
  apart : ∀ (j : Nat) c, cs[j]? = some c → ∀ n o, look c.rd n = some o → c.touches n = false
  okT : ∀ (j : Nat) c, cs[j]? = some c → ∀ n o, look (c.rd ++ c.hT) n = some o → hasO (fun _ => true) o = true ∧ n < N
  back : ∀ (j : Nat) c, cs[j]? = some c → ∀ e ∈ c.o.after, Region.binds .any e = true → e.on < j
  edge : ∀ (j : Nat) c, cs[j]? = some c → ∀ i ∈ c.bef, ∃ e ∈ c.o.after, Region.binds .any e = true ∧ (i = e.on ∨ ∃ c', cs[e.on]? = some c' ∧ i ∈ c'.bef)
  order : ∀ (i j : Nat) a b, cs[i]? = some a → cs[j]? = some b → i ≠ j → meet a b → (i < j ∧ i ∈ b.bef) ∨ (j < i ∧ j ∈ a.bef)
  mention : ∀ (i j : Nat) a b, cs[i]? = some a → cs[j]? = some b → i ≠ j → ¬ silent a b → i ∈ b.bef

def cnt (X : Nat → Bool) : Nat → Nat
  | 0 => 0
  | m + 1 => cnt X m + (if X m then 0 else 1)

theorem cnt_zero {X : Nat → Bool} : ∀ {m : Nat}, cnt X m = 0 → ∀ i, i < m → X i = true
  | 0, _, i, h => by omega
  | m + 1, h, i, hi => by
    simp only [cnt] at h
    by_cases e : i = m
    · subst e
      cases hx : X i with
      | true => rfl
      | false => simp [hx] at h
    · have h0 : cnt X m = 0 := by omega
      exact cnt_zero h0 i (by omega)

theorem cnt_set {X X' : Nat → Bool} {j : Nat} (hj : X j = false) (h : ∀ i, X' i = if i = j then true else X i) : ∀ {m : Nat}, cnt X' m + (if j < m then 1 else 0) = cnt X m
  | 0 => by simp [cnt]
  | m + 1 => by
    have ih := cnt_set hj h (m := m)
    simp only [cnt]
    by_cases e : m = j
    · subst e
      have hx' : X' m = true := by rw [h]; simp
      rw [hx', hj]
      simp at ih ⊢
      omega
    · have hx' : X' m = X m := by rw [h]; simp [e]
      rw [hx']
      have e2 : (j < m + 1) ↔ (j < m) := by omega
      simp only [e2]
      omega

theorem fold_source {β : Type} {up : Cert → (Nat → Option β) → (Nat → Option β)} {wr : Cert → Nat → Bool} {val : Cert → Nat → Option β} (hl : Local up wr val) {X : Nat → Bool} {k : Nat} {x : β} :
    ∀ (cs : List Cert) (i : Nat) (f : Nat → Option β), fold (α := Unit) up X cs i f k = some x → f k = some x ∨ ∃ j c, cs[j]? = some c ∧ X (i + j) = true ∧ wr c k = true ∧ val c k = some x
  | [], i, f, h => .inl h
  | c :: t, i, f, h => by
    simp only [fold] at h
    rcases fold_source hl t (i + 1) _ h with h1 | ⟨j, c', a1, a2, a3, a4⟩
    · split at h1
      · rename_i hx
        cases hw : wr c k with
        | true => rw [hl.yes c f k hw] at h1; exact .inr ⟨0, c, rfl, hx, hw, h1⟩
        | false => rw [hl.no c f k hw] at h1; exact .inl h1
      · exact .inl h1
    · exact .inr ⟨j + 1, c', by simpa using a1, by rw [show i + (j + 1) = i + 1 + j by omega]; exact a2, a3, a4⟩

section
variable {P : Program} {tab : Tab} {c : Ctx} {nx : Nat} {env : Env} {H : Heap}

theorem StΦ.subEnv {φ : Nat → Phys} {tmps : Array Value} {w : World} (h : StΦ c nx env H φ tmps w) {env1 : Env} (he : ∀ k x, look env1 k = some x → look env k = some x) : StΦ c nx env1 H φ tmps w :=
  ⟨h.ok, fun k x hk => h.env k x (he k x hk), h.ext, h.keep, h.size⟩

theorem StΦ.raise {φ : Nat → Phys} {tmps : Array Value} {w : World} (h : StΦ c nx env H φ tmps w) {N : Nat} (hN : nx ≤ N) : StΦ c N env H φ tmps w := by
  refine h.next (fun _ _ => rfl) hN ?_ (Ext.refl _ _)
  exact ⟨fun n o hn => by obtain ⟨a, b⟩ := h.ok.obj n o hn; exact ⟨by omega, b.step (fun _ _ => rfl) hN (Mono.refl _ _) a fun _ => rfl⟩, h.ok.dis, h.ok.out⟩

theorem own_congr {φ : Nat → Phys} {H1 H2 : Heap} (h : ∀ n, look H1 n = look H2 n) : Own φ H1 = Own φ H2 := by
  funext b off
  simp only [Own, h]

abbrev foldE (X : Nat → Bool) (cs : List Cert) (env0 : Env) : Nat → Option PV := fold (α := Unit) upE X cs 0 (look env0)
abbrev foldH (X : Nat → Bool) (cs : List Cert) (H0 : Heap) : Nat → Option Obj := fold (α := Unit) upH X cs 0 (look H0)

/-- One operation, whatever of the others is done. -/
theorem Plan.step (ht : TabOk P tab) {nx0 N : Nat} {ops : Array Oper} {env0 : Env} {H0 : Heap} {cs : List Cert} (pl : Plan P tab c.nt c.k nx0 N ops env0 H0 cs) {Q : Exit → Act → World → Prop}
    {X X' : Nat → Bool} {φ : Nat → Phys} {tmps : Array Value} {w : World} (hs : StΦ c N (listOf c.nt (foldE X cs env0)) (listOf N (foldH X cs H0)) φ tmps w)
    (hX : ∀ (j : Nat) c', cs[j]? = some c' → X j = true → ∀ i ∈ c'.bef, X i = true) {j : Nat} {cj : Cert} (hj : cs[j]? = some cj) (hXj : X j = false) (hbef : ∀ i ∈ cj.bef, X i = true)
    (hX' : ∀ i, X' i = if i = j then true else X i) {K : Act → World → Prop}
    (hK : ∀ φ tmps w, StΦ c N (listOf c.nt (foldE X' cs env0)) (listOf N (foldH X' cs H0)) φ tmps w → K (act tmps) w) : wpOp P ops Q j K (act tmps) w := by
  obtain ⟨hdst, hMM, hrun⟩ := pl.ok j cj hj
  obtain ⟨hM0, hM'⟩ := pl.names j cj hj
  -- what is not ordered does not meet
  have hother : ∀ (i : Nat) ci, cs[i]? = some ci → i ≠ j → (meet ci cj ∨ meet cj ci) → X i = decide (i < j) := by
    intro i ci hi hne hm
    have key : (i < j ∧ i ∈ cj.bef) ∨ (j < i ∧ j ∈ ci.bef) := by
      rcases hm with hm | hm
      · exact pl.order i j ci cj hi hj hne hm
      · rcases pl.order j i cj ci hj hi (fun e => hne e.symm) hm with h | h
        · exact .inr h
        · exact .inl h
    rcases key with ⟨h1, h2⟩ | ⟨h1, h2⟩
    · rw [hbef i h2]; simp [h1]
    · have : X i = false := by
        cases hx : X i with
        | false => rfl
        | true => have := hX i ci hi hx j h2; rw [hXj] at this; cases this
      rw [this]; simp; omega
  have hfoldE : ∀ k, (∀ (i : Nat) ci, cs[i]? = some ci → wrE ci k = true → X i = decide (i < j)) → foldE X cs env0 k = ((cs.take j).foldl (fun f c => upE c f) (look env0)) k := by
    intro k h
    have := fold_below (up := upE) cs 0 j (look env0)
    rw [← this]
    exact fold_agree localE cs 0 _ _ rfl fun q cq hq hw => by simpa using h q cq hq hw
  have hfoldH : ∀ k, (∀ (i : Nat) ci, cs[i]? = some ci → ci.touches k = true → X i = decide (i < j)) → foldH X cs H0 k = ((cs.take j).foldl (fun f c => upH c f) (look H0)) k := by
    intro k h
    have := fold_below (up := upH) cs 0 j (look H0)
    rw [← this]
    exact fold_agree localH cs 0 _ _ rfl fun q cq hq hw => by simpa using h q cq hq hw
  have heS : ∀ k x, look cj.eS k = some x → look (listOf c.nt (foldE X cs env0)) k = some x ∧ has (fun n => decide (n < cj.M)) x = true := by
    intro k x hk
    obtain ⟨a1, a2, a3⟩ := pl.readE j cj hj k x hk
    refine ⟨?_, a2⟩
    rw [look_listOf, if_pos a3, hfoldE k fun i ci hi hw => ?_]
    · exact a1
    · by_cases e : i = j
      · subst e; rw [hXj]; simp
      · exact hother i ci hi e (.inl (.inl ⟨k, by simpa [wrE] using hw, .inr (by rw [hk]; rfl)⟩))
  have hHS : ∀ n o, look (cj.rd ++ cj.hS) n = some o → look (listOf N (foldH X cs H0)) n = some o ∧ n < cj.M ∧ hasO (fun n => decide (n < cj.M)) o = true := by
    intro n o hn
    obtain ⟨a1, a2, a3⟩ := pl.readH j cj hj n o hn
    refine ⟨?_, a2, a3⟩
    rw [look_listOf, if_pos (by omega), hfoldH n fun i ci hi hw => ?_]
    · exact a1
    · by_cases e : i = j
      · subst e; rw [hXj]; simp
      · refine hother i ci hi e (.inl (.inr ⟨n, hw, ?_⟩))
        rw [look_append] at hn
        cases hq : look cj.rd n with
        | some o1 => exact .inr rfl
        | none =>
          rw [hq] at hn; simp at hn
          exact .inl (by simp [Cert.touches, hn])
  -- what was left by those that are done speaks of none of the new names
  have hquietE : ∀ k x, foldE X cs env0 k = some x → has (outP cj.M cj.M') x = true := by
    intro k x hk
    rcases fold_source localE cs 0 _ hk with h | ⟨i, ci, a1, a2, a3, a4⟩
    · have hlt := pl.envB k x h
      have mono : ∀ {p q : Nat → Bool}, (∀ n, p n = true → q n = true) → ∀ y, has p y = true → has q y = true := by
        intro p q hpq
        have h1 : ∀ y, has1 p y = true → has1 q y = true := by intro y; cases y <;> simp [has1] <;> exact hpq _
        have h2 : ∀ y, has2 p y = true → has2 q y = true := by
          intro y; cases y <;> simp only [has2] <;> first | exact h1 _ | (simp only [List.all_eq_true]; exact fun h z hz => h1 z (h z hz))
        intro y; cases y <;> simp only [has] <;> first | exact h2 _ | (simp only [List.all_eq_true]; exact fun h z hz => h2 z (h z hz))
      exact mono (fun n hn => by simp [outP] at hn ⊢; omega) x hlt
    · simp only [Nat.zero_add] at a2
      by_cases hsil : silent cj ci
      · exact hsil.1 x a4
      · by_cases e : i = j
        · subst e; rw [hXj] at a2; cases a2
        · have := hX i ci a1 a2 j (pl.mention j i cj ci hj a1 (fun h => e h.symm) hsil)
          rw [hXj] at this; cases this
  have hquietH : ∀ n o, foldH X cs H0 n = some o → outP cj.M cj.M' n = true ∧ hasO (outP cj.M cj.M') o = true := by
    intro n o hn
    rcases fold_source localH cs 0 _ hn with h | ⟨i, ci, a1, a2, a3, a4⟩
    · obtain ⟨h1, h2⟩ := pl.heapB n o h
      refine ⟨by simp [outP]; omega, ?_⟩
      cases o with
      | buf => rfl
      | mp => rfl
      | obj xs =>
        simp only [hasO, List.all_eq_true] at h2 ⊢
        intro z hz
        have hz2 := h2 z hz
        have h1' : ∀ y, has1 (fun n => decide (n < nx0)) y = true → has1 (outP cj.M cj.M') y = true := by
          intro y; cases y <;> simp [has1, outP] <;> omega
        cases z <;> simp only [has2] at hz2 ⊢ <;> first | exact h1' _ hz2 | (simp only [List.all_eq_true] at hz2 ⊢; exact fun y hy => h1' y (hz2 y hy))
    · simp only [Nat.zero_add] at a2
      by_cases hsil : silent cj ci
      · exact hsil.2 n o a4
      · by_cases e : i = j
        · subst e; rw [hXj] at a2; cases a2
        · have := hX i ci a1 a2 j (pl.mention j i cj ci hj a1 (fun h => e h.symm) hsil)
          rw [hXj] at this; cases this
  have hE' : ∀ k, wrE cj k = false → foldE X' cs env0 k = foldE X cs env0 k := fun k hk => fold_agree localE cs 0 _ _ rfl fun q cq hq hw => by
    rw [Nat.zero_add, hX' q]
    by_cases e : q = j
    · subst e; rw [hj] at hq; cases hq; rw [hk] at hw; cases hw
    · rw [if_neg e]
  have hH' : ∀ k, cj.touches k = false → foldH X' cs H0 k = foldH X cs H0 k := fun k hk => fold_agree localH cs 0 _ _ rfl fun q cq hq hw => by
    rw [Nat.zero_add, hX' q]
    by_cases e : q = j
    · subst e; rw [hj] at hq; cases hq; rw [hk] at hw; cases hw
    · rw [if_neg e]
  have hlater : ∀ (q : Nat) cq, cs[q]? = some cq → j < q → (meet cq cj ∨ meet cj cq) → X' (0 + q) = false := by
    intro q cq hq hlt hm
    rw [Nat.zero_add, hX' q, if_neg (by omega), hother q cq hq (by omega) hm]
    simp; omega
  have hEj : ∀ k, wrE cj k = true → foldE X' cs env0 k = cj.pv := fun k hk => fold_last localE cs 0 _ j cj hj (by rw [Nat.zero_add, hX' j]; simp) hk fun q cq hq hlt hw =>
    hlater q cq hq hlt (.inr (.inl ⟨k, by simpa [wrE] using hk, .inl (by simpa [wrE] using hw)⟩))
  have hHj : ∀ k, cj.touches k = true → foldH X' cs H0 k = look cj.hT k := fun k hk => fold_last localH cs 0 _ j cj hj (by rw [Nat.zero_add, hX' j]; simp) hk fun q cq hq hlt hw =>
    hlater q cq hq hlt (.inr (.inr ⟨k, hk, .inl hw⟩))
  -- the operation itself
  have hskip : cj.pv = some undefP → cj.hS = [] → cj.hT = [] → K ((act tmps).put cj.o.dst undef) w := by
    intro h1 h2 h3
    have e : (act tmps).put cj.o.dst undef = act ((act tmps).put cj.o.dst undef).tmps := by cases cj.o.dst <;> rfl
    rw [e]
    have htouch : ∀ k, cj.touches k = false := fun k => by simp [Cert.touches, h2, h3, look]
    have hs1 : StΦ c N (listOf c.nt (foldE X' cs env0)) (listOf N (foldH X cs H0)) φ ((act tmps).put cj.o.dst undef).tmps w := by
      cases hd : cj.o.dst with
      | none =>
        refine hs.subEnv fun k x hk => ?_
        rw [look_listOf] at hk ⊢
        split at hk
        · rename_i hlt
          rw [if_pos hlt]
          rw [hE' k (by simp [wrE, hd])] at hk
          exact hk
        · cases hk
      | some d =>
        have hdn : d < c.nt := by have := hdst; rw [hd] at this; simpa [dstOk] using this
        refine (hs.put (d := d) (.f (.v undef)) hdn).subEnv fun k x hk => ?_
        rw [look_listOf] at hk
        split at hk
        · rename_i hlt
          by_cases ek : d = k
          · subst ek
            rw [hEj d (by simp [wrE, hd]), h1] at hk; cases hk
            exact look_cons_same _ _ _
          · rw [look_cons_ne _ _ ek, look_listOf, if_pos hlt]
            rw [hE' k (by simp [wrE, hd, ek])] at hk
            exact hk
        · cases hk
    refine hK φ _ w (hs1.sub fun n o hn => ?_)
    rw [look_listOf] at hn ⊢
    split at hn
    · rename_i hlt
      rw [if_pos hlt]
      rw [hH' n (htouch n)] at hn
      exact hn
    · cases hn
  have hexec : (∃ p, cj.pv = some p ∧ has (fun _ => true) p = true ∧ stepOp P tab cj.eS cj.M (cj.rd ++ cj.hS) (fun pv' nx' H' => pv' = p ∧ nx' = cj.M' ∧ ∀ n, look H' n = look (cj.rd ++ cj.hT) n) cj.o.op) →
      cj.o.wp P (act tmps) w K Q := by
    rintro ⟨p, hp, hpp, hst⟩
    let HS : Heap := cj.rd ++ cj.hS
    let HR : Heap := listOf N (fun n => if (look HS n).isSome then none else foldH X cs H0 n)
    have hpart : Part (listOf N (foldH X cs H0)) HS HR := by
      refine ⟨fun n o hn => (hHS n o hn).1, fun n o hn => ?_, fun n o o' hn hn' => ?_, fun n o hn => ?_⟩
      · simp only [HR, look_listOf] at hn ⊢
        split at hn
        · rename_i hlt
          rw [if_pos hlt]
          split at hn
          · cases hn
          · exact hn
        · cases hn
      · simp only [HR, look_listOf] at hn'
        split at hn'
        · rw [hn] at hn'; simp at hn'
        · cases hn'
      · cases hq : look HS n with
        | some o1 =>
          have := (hHS n o1 hq).1
          rw [hn] at this; cases this; exact .inl rfl
        | none =>
          right
          simp only [HR, look_listOf, hq] at hn ⊢
          split at hn
          · rename_i hlt; rw [if_pos hlt]; simpa using hn
          · cases hn
    obtain ⟨hlow, hsS, _⟩ := hs.part hpart (show cj.M ≤ N by omega) heS (fun n o hn => (hHS n o hn).2)
    refine does_op ht hst φ tmps w hsS K Q fun pv nx' H' φ' v w' hk hs' hr => ?_
    obtain ⟨rfl, rfl, hlk⟩ := hk
    have hOwn : Own φ' H' = Own φ' (cj.rd ++ cj.hT) := own_congr hlk
    have hs2 : StΦ (c.part w φ HS HR cj.M hlow) cj.M' cj.eS (cj.rd ++ cj.hT) φ' tmps w' := hs'.sub fun m o hm => by rw [hlk]; exact hm
    have hr2 : Rep φ' cj.M' w' (SS (c.part w φ HS HR cj.M hlow).So φ' (cj.rd ++ cj.hT)) pv v := by
      have e : SS (c.part w φ HS HR cj.M hlow).So φ' H' = SS (c.part w φ HS HR cj.M hlow).So φ' (cj.rd ++ cj.hT) := by funext b off; simp only [SS, hOwn]
      rw [← e]; exact hr
    have hHR : ∀ n o, look HR n = some o → (look HS n).isSome = false ∧ foldH X cs H0 n = some o ∧ n < N := by
      intro n o hn
      simp only [HR, look_listOf] at hn
      split at hn
      · rename_i hlt
        cases hq : look HS n with
        | some o1 => rw [hq] at hn; simp at hn
        | none => rw [hq] at hn; exact ⟨rfl, by simpa using hn, hlt⟩
      · cases hn
    obtain ⟨φ2, g1, g2⟩ := hs.whole hpart hMM hM' hs2 (env' := listOf c.nt (fun k => if wrE cj k then none else foldE X cs env0 k))
      (fun k x hk => by
        rw [look_listOf] at hk ⊢
        split at hk
        · rename_i hlt
          rw [if_pos hlt]
          split at hk
          · cases hk
          · exact ⟨hk, hquietE k x hk⟩
        · cases hk)
      (fun n o hn => by
        obtain ⟨a1, a2, a3⟩ := hHR n o hn
        obtain ⟨b1, b2⟩ := hquietH n o a2
        exact ⟨by simpa [outP] using b1, b2⟩)
      (fun n o o' hn hn' => by
        obtain ⟨a1, a2, a3⟩ := hHR n o' hn'
        obtain ⟨b1, b2⟩ := hquietH n o' a2
        rw [look_append] at hn
        cases hq : look cj.rd n with
        | some o1 => simp only [HS] at a1; rw [look_append, hq] at a1; simp at a1
        | none =>
          rw [hq] at hn; simp at hn
          rcases pl.fresh j cj hj n o hn with h | h
          · simp only [HS] at a1; rw [look_append, hq] at a1; simp at a1; rw [a1] at h; cases h
          · simp [outP] at b1; omega)
      (by have := pl.k; omega) hr2 hpp (fun n o hn => (pl.okT j cj hj n o hn).1)
    have e : (act tmps).put cj.o.dst v = act ((act tmps).put cj.o.dst v).tmps := by cases cj.o.dst <;> rfl
    rw [e]
    have g3 := g1.putE g2 hdst
    refine hK φ2 _ w' ((g3.subEnv fun k x hk => ?_).sub fun n o hn => ?_)
    · rw [look_listOf] at hk
      split at hk
      · rename_i hlt
        cases hw : wrE cj k with
        | true =>
          rw [hEj k hw, hp] at hk
          have hd : cj.o.dst = some k := by simpa [wrE] using hw
          rw [hd]
          simp only [Pv.putE]
          rw [look_cons_same]; exact hk
        | false =>
          rw [hE' k hw] at hk
          have hne : ∀ d, cj.o.dst = some d → d ≠ k := fun d hd e => by simp [wrE, hd, e] at hw
          have hbase : look (listOf c.nt (fun k => if wrE cj k then none else foldE X cs env0 k)) k = some x := by
            rw [look_listOf, if_pos hlt, hw]; exact hk
          cases hd : cj.o.dst with
          | none => exact hbase
          | some d => simp only [Pv.putE]; rw [look_cons_ne _ _ (hne d hd)]; exact hbase
      · cases hk
    · rw [look_listOf] at hn
      split at hn
      · rename_i hlt
        rw [look_append]
        cases htc : cj.touches n with
        | true =>
          rw [hHj n htc] at hn
          have hrd : look cj.rd n = none := by
            cases hq : look cj.rd n with
            | none => rfl
            | some o1 => have := pl.apart j cj hj n o1 hq; rw [htc] at this; cases this
          rw [look_append, hrd, hn]; rfl
        | false =>
          rw [hH' n htc] at hn
          have hT : look cj.hT n = none := by
            cases hq : look cj.hT n with
            | none => rfl
            | some o1 => simp [Cert.touches, hq] at htc
          have hS : look cj.hS n = none := by
            cases hq : look cj.hS n with
            | none => rfl
            | some o1 => simp [Cert.touches, hq] at htc
          rw [look_append, hT]
          cases hq : look cj.rd n with
          | some o1 =>
            have := (hHS n o1 (by rw [look_append, hq]; rfl)).1
            rw [look_listOf, if_pos hlt, hn] at this
            cases this; rfl
          | none =>
            simp only [Option.or_none, HR, look_listOf, if_pos hlt, HS]
            rw [look_append, hq, hS]
            simpa using hn
      · cases hn
  unfold wpOp
  rw [pl.op j cj hj]
  simp only
  split at hrun
  · rename_i hg
    rw [if_pos (by simp [Region.wanted, hg])]
    exact .inl (hexec hrun)
  · rename_i q want hg
    obtain ⟨d, b, r1, r2, r3, r4⟩ := hrun
    obtain ⟨v, v1, v2⟩ := hs.env d _ (heS d _ r2).1
    have hv := v2.v_inv
    subst hv
    have hy := yielded_vb r1 v1
    by_cases hb : vb v = some want
    · rw [if_pos (by simp [Region.wanted, hg, hy, hb])]
      exact .inl (hexec (r3 hb))
    · rw [if_neg (by simp [Region.wanted, hg, hy, hb])]
      obtain ⟨h1, h2, h3⟩ := r4 hb
      exact hskip h1 h2 h3

theorem getD_true (l : Array Bool) (j i : Nat) (hj : j < l.size) : (l.setIfInBounds j true).getD i false = if i = j then true else l.getD i false := by
  by_cases h : i = j
  · subst h; simp [hj]
  · rw [if_neg h]
    simp only [Array.getD_eq_getD_getElem?, Array.getElem?_setIfInBounds]
    rw [if_neg (fun e => h e.symm)]

theorem getD_same {l : Array Bool} {j : Nat} (hj : j < l.size) : l.getD j true = l.getD j false := by simp [hj]

theorem Plan.run (ht : TabOk P tab) {nx0 N : Nat} {ops : Array Oper} {env0 : Env} {H0 : Heap} {cs : List Cert} (pl : Plan P tab c.nt c.k nx0 N ops env0 H0 cs) {Q : Exit → Act → World → Prop}
    (hQ : ∀ φ tmps w, StΦ c N (listOf c.nt (foldE (fun _ => true) cs env0)) (listOf N (foldH (fun _ => true) cs H0)) φ tmps w → Q .normal (act tmps) w) :
    ∀ (fuel : Nat) (listed : Array Bool) (φ : Nat → Phys) (tmps : Array Value) (w : World), listed.size = ops.size → cnt (fun i => listed.getD i false) ops.size = fuel →
      (∀ (j : Nat) c', cs[j]? = some c' → listed.getD j false = true → ∀ i ∈ c'.bef, listed.getD i false = true) →
      StΦ c N (listOf c.nt (foldE (fun i => listed.getD i false) cs env0)) (listOf N (foldH (fun i => listed.getD i false) cs H0)) φ tmps w → wpAny P .any ops Q fuel listed (act tmps) w := by
  have hdone : ∀ (listed : Array Bool) (φ : Nat → Phys) (tmps : Array Value) (w : World), cnt (fun i => listed.getD i false) ops.size = 0 →
      StΦ c N (listOf c.nt (foldE (fun i => listed.getD i false) cs env0)) (listOf N (foldH (fun i => listed.getD i false) cs H0)) φ tmps w → Q .normal (act tmps) w := by
    intro listed φ tmps w hc hs
    refine hQ φ tmps w ((hs.subEnv fun k x hk => ?_).sub fun n o hn => ?_)
    · rw [look_listOf] at hk ⊢
      split at hk
      · rename_i hlt
        rw [if_pos hlt]
        rw [← hk]
        exact fold_agree localE cs 0 _ _ rfl fun q cq hq hw => by
          rw [Nat.zero_add]
          exact cnt_zero hc q (by rw [← pl.len]; exact (List.getElem?_eq_some_iff.1 hq).1)
      · cases hk
    · rw [look_listOf] at hn ⊢
      split at hn
      · rename_i hlt
        rw [if_pos hlt]
        rw [← hn]
        exact fold_agree localH cs 0 _ _ rfl fun q cq hq hw => by
          rw [Nat.zero_add]
          exact cnt_zero hc q (by rw [← pl.len]; exact (List.getElem?_eq_some_iff.1 hq).1)
      · cases hn
  -- while something is left, something is ready
  have hready : ∀ listed : Array Bool, listed.size = ops.size → Region.ready .any ops listed = [] → cnt (fun i => listed.getD i false) ops.size = 0 := by
    intro listed hsz hr
    have hall : ∀ i, i < ops.size → listed.getD i false = true := by
      intro i
      induction i using Nat.strongRecOn with
      | _ i ih =>
        intro hi
        cases hx : listed.getD i false with
        | true => rfl
        | false =>
          exfalso
          have hic : i < cs.length := by rw [pl.len]; exact hi
          have hmem : i ∈ Region.ready .any ops listed := by
            rw [mem_ready]
            refine ⟨by rw [getD_same (by omega)]; exact hx, cs[i].o, pl.op i cs[i] (by simp [hic]), fun e he hb => ?_⟩
            have hlt := pl.back i cs[i] (by simp [hic]) e he hb
            exact ih e.on hlt (by omega)
          rw [hr] at hmem; cases hmem
    have : ∀ m, m ≤ ops.size → cnt (fun i => listed.getD i false) m = 0 := by
      intro m
      induction m with
      | zero => intro _; rfl
      | succ m ih =>
        intro hm
        have h1 := hall m (by omega)
        simp only [cnt, ih (by omega), h1, if_true]
    exact this _ (Nat.le_refl _)
  intro fuel
  induction fuel with
  | zero =>
    intro listed φ tmps w hsz hc hcl hs
    refine ⟨?_, hdone listed φ tmps w hc hs⟩
    cases hr : Region.ready .any ops listed with
    | nil => rfl
    | cons i t =>
      exfalso
      have hm : i ∈ Region.ready .any ops listed := by rw [hr]; simp
      rw [mem_ready] at hm
      obtain ⟨h1, o, h2, _⟩ := hm
      have hlt : i < ops.size := (Array.getElem?_eq_some_iff.1 h2).1
      rw [getD_same (by omega)] at h1
      have h5 : listed.getD i false = true := cnt_zero hc i hlt
      rw [h1] at h5; cases h5
  | succ fuel ih =>
    intro listed φ tmps w hsz hc hcl hs
    refine ⟨fun hr => hdone listed φ tmps w (hready listed hsz hr) hs, fun j hj => ?_⟩
    rw [mem_ready] at hj
    obtain ⟨h1, o, h2, h3⟩ := hj
    have hlt : j < ops.size := (Array.getElem?_eq_some_iff.1 h2).1
    have hjc : j < cs.length := by rw [pl.len]; exact hlt
    rw [getD_same (by omega)] at h1
    have hcj : cs[j]? = some cs[j] := by simp [hjc]
    have hoj : cs[j].o = o := by have := pl.op j cs[j] hcj; rw [h2] at this; cases this; rfl
    have hbef : ∀ i ∈ cs[j].bef, listed.getD i false = true := by
      intro i hi
      obtain ⟨e, he, hb, h | ⟨c', hc', hi'⟩⟩ := pl.edge j cs[j] hcj i hi
      · subst h; exact h3 e (by rw [← hoj]; exact he) hb
      · exact hcl e.on c' hc' (h3 e (by rw [← hoj]; exact he) hb) i hi'
    refine pl.step ht (X := fun i => listed.getD i false) (X' := fun i => (listed.setIfInBounds j true).getD i false) hs hcl hcj h1 hbef (fun i => getD_true listed j i (by omega)) fun φ tmps w hs' => ?_
    refine ih _ φ tmps w (by simpa using hsz) ?_ ?_ hs'
    · have := cnt_set (X := fun i => listed.getD i false) (X' := fun i => (listed.setIfInBounds j true).getD i false) (j := j) h1 (fun i => getD_true listed j i (by omega)) (m := ops.size)
      rw [if_pos hlt] at this
      omega
    · intro q cq hq hx i hi
      have hx2 : (if q = j then true else listed.getD q false) = true := by rw [← getD_true listed j q (by omega)]; exact hx
      have : (if i = j then true else listed.getD i false) = true := by
        by_cases e : i = j
        · rw [if_pos e]
        · rw [if_neg e]
          by_cases eq : q = j
          · subst eq; rw [hcj] at hq; cases hq; exact hbef i hi
          · rw [if_neg eq] at hx2; exact hcl q cq hq hx2 i hi
      rw [getD_true listed j i (by omega)]; exact this

/-- A region that draws its order, told in the text's. -/
theorem W_draw (ht : TabOk P tab) (hm : P.follows .mixedOrders = true) {id nx0 N : Nat} {ops : Array Oper} {env0 envF : Env} {H0 HF : Heap} {cs : List Cert} {Q : Post} (pl : Plan P tab c.nt c.k nx0 N ops env0 H0 cs)
    (hE : ∀ k x, look envF k = some x → (cs.foldl (fun f c => upE c f) (look env0)) k = some x ∧ k < c.nt) (hH : ∀ n o, look HF n = some o → (cs.foldl (fun f c => upH c f) (look H0)) n = some o ∧ n < N)
    (hQ : Q .normal envF N HF) : W P c (.region id ops true) env0 nx0 H0 Q := by
  intro φ tmps w hs
  refine wp_region_any hm ?_
  have hs1 : StΦ c N env0 H0 φ tmps w.drew := (hs.same (w' := w.drew) rfl rfl rfl (Nat.le_refl _) (fun _ _ => rfl)).raise pl.nx
  have hfalse : ∀ i, (Array.replicate ops.size false).getD i false = false := by
    intro i
    simp only [Array.getD_eq_getD_getElem?, Array.getElem?_replicate]
    split <;> rfl
  have hnoneE : foldE (fun i => (Array.replicate ops.size false).getD i false) cs env0 = look env0 := by
    funext k
    have : ∀ (t : List Cert) (i : Nat) (f : Nat → Option PV), fold (α := Unit) upE (fun i => (Array.replicate ops.size false).getD i false) t i f = f := by
      intro t; induction t with
      | nil => intros; rfl
      | cons c t ih => intro i f; rw [fold, hfalse i]; exact ih _ _
    rw [foldE, this]
  have hnoneH : foldH (fun i => (Array.replicate ops.size false).getD i false) cs H0 = look H0 := by
    funext k
    have : ∀ (t : List Cert) (i : Nat) (f : Nat → Option Obj), fold (α := Unit) upH (fun i => (Array.replicate ops.size false).getD i false) t i f = f := by
      intro t; induction t with
      | nil => intros; rfl
      | cons c t ih => intro i f; rw [fold, hfalse i]; exact ih _ _
    rw [foldH, this]
  have hcount : cnt (fun i => (Array.replicate ops.size false).getD i false) ops.size = ops.size := by
    have : ∀ m, cnt (fun i => (Array.replicate ops.size false).getD i false) m = m := by
      intro m; induction m with
      | zero => rfl
      | succ m ih =>
        have h1 := hfalse m
        simp only [cnt, ih, h1]
        rfl
    exact this _
  refine pl.run ht (fun φ tmps w hs => ?_) ops.size _ φ tmps w.drew (by simp) hcount (fun j c' _ hx => by rw [hfalse] at hx; cases hx) ?_
  · refine ⟨.normal, envF, N, HF, φ, rfl, rfl, (hs.subEnv fun k x hk => ?_).sub fun n o hn => ?_, hQ⟩
    · obtain ⟨a, b⟩ := hE k x hk
      rw [look_listOf, if_pos b, foldE, fold_all]; exact a
    · obtain ⟨a, b⟩ := hH n o hn
      rw [look_listOf, if_pos b, foldH, fold_all]; exact a
  · rw [hnoneE, hnoneH]
    refine (hs1.subEnv fun k x hk => ?_).sub fun n o hn => ?_
    · rw [look_listOf] at hk; split at hk
      · exact hk
      · cases hk
    · rw [look_listOf] at hn; split at hn
      · exact hn
      · cases hn
end
end Go.Proofs.YtnajikpdnccilaaGreat.Pv
