/- Abstract values over the machine's memory: what a walk knows of slots and of blocks of its own. -/
import Derived.Tactics
import Derived.Below
import Derived.Laws.World
import Derived.Laws.Tables
import Derived.Laws.CopyRow
namespace Go.Proofs.YtnajikpdnccilaaGreat.Pv
open Go

/-- A value that needs no name: as it is; a slice that nobody writes any more; a pointer to memory that nobody writes any more; a struct's or an array's cells. -/
inductive FV where
  | v (x : Value)
  | sl (sz : Nat) (clip : Bool) (l : List FV)
  | ro (x : FV)
  | agg (cs : List FV)
  deriving Inhabited

/-- The cells that a value takes in memory. -/
def FV.cells : FV → List FV
  | .agg cs => cs
  | .v x => [.v x]
  | .sl a b c => [.sl a b c]
  | .ro x => [.ro x]

/-- Is a value the value of one cell? -/
abbrev one (v : Value) : Bool := v.oneCell'

inductive RepF (w : World) (S : Nat → Nat → Prop) : FV → Value → Prop where
  | v (x : Value) : RepF w S (.v x) x
  | agg (cs : List FV) (vs : Array Value) : vs.size = cs.length →
      (∀ (i : Nat) u, vs[i]? = some u → one u = true) →
      (∀ (i : Nat) c u, cs[i]? = some c → vs[i]? = some u → RepF w S c u) → RepF w S (.agg cs) (.agg vs)
  | slnil (sz : Nat) (clip : Bool) : RepF w S (.sl sz clip []) (.slice none 0 0)
  | slemp (sz : Nat) (clip : Bool) (A : Addr) : RepF w S (.sl sz clip []) (.slice (some A) 0 0)
  | sl (sz : Nat) (clip : Bool) (l : List FV) (b off cap : Nat) (val : Nat → Nat → Value) : l.length ≤ cap → (clip = true → cap = l.length) →
      (∀ (i : Nat) x, l[i]? = some x → x.cells.length = sz) →
      (∀ (i : Nat) x (j : Nat) c, l[i]? = some x → x.cells[j]? = some c →
        w.cell? ⟨b, off + i * sz + j, none⟩ = some (val i j) ∧ ¬ S b (off + i * sz + j) ∧ one (val i j) = true) →
      (∀ (i : Nat) x (j : Nat) c, l[i]? = some x → x.cells[j]? = some c → RepF w S c (val i j)) →
      RepF w S (.sl sz clip l) (.slice (some ⟨b, off, none⟩) l.length cap)
  | ro (x : FV) (b off : Nat) (val : Nat → Value) :
      (∀ (j : Nat) c, x.cells[j]? = some c → w.cell? ⟨b, off + j, none⟩ = some (val j) ∧ ¬ S b (off + j) ∧ one (val j) = true) →
      (∀ (j : Nat) c, x.cells[j]? = some c → RepF w S c (val j)) → RepF w S (.ro x) (.pointer (some ⟨b, off, none⟩))

/-- What is readable and not to be written stays so. -/
def Mono (w : World) (S : Nat → Nat → Prop) (w' : World) (S' : Nat → Nat → Prop) : Prop :=
  ∀ b off u, w.cell? ⟨b, off, none⟩ = some u → ¬ S b off → w'.cell? ⟨b, off, none⟩ = some u ∧ ¬ S' b off

theorem Mono.refl (w : World) (S : Nat → Nat → Prop) : Mono w S w S := fun _ _ _ h h' => ⟨h, h'⟩

theorem Mono.trans {w w1 w2 : World} {S S1 S2 : Nat → Nat → Prop} (h : Mono w S w1 S1) (k : Mono w1 S1 w2 S2) : Mono w S w2 S2 :=
  fun b off u h1 h2 => k b off u (h b off u h1 h2).1 (h b off u h1 h2).2

theorem RepF.step {w w' : World} {S S' : Nat → Nat → Prop} (hm : Mono w S w' S') : ∀ {x v}, RepF w S x v → RepF w' S' x v := by
  intro x v h
  induction h with
  | v x => exact .v x
  | agg cs vs hs ho _ ih => exact .agg cs vs hs ho ih
  | slnil sz clip => exact .slnil sz clip
  | slemp sz clip A => exact .slemp sz clip A
  | sl sz clip l b off cap val h1 h2 h3 h4 _ ih =>
    refine .sl sz clip l b off cap val h1 h2 h3 (fun i x j c e1 e2 => ?_) ih
    obtain ⟨a1, a2, a3⟩ := h4 i x j c e1 e2
    obtain ⟨b1, b2⟩ := hm _ _ _ a1 a2
    exact ⟨b1, b2, a3⟩
  | ro x b off val h _ ih =>
    refine .ro x b off val (fun j c e => ?_) ih
    obtain ⟨a1, a2, a3⟩ := h j c e
    obtain ⟨b1, b2⟩ := hm _ _ _ a1 a2
    exact ⟨b1, b2, a3⟩

/-- Where a named buffer (or object) lies. -/
structure Phys where
  blk : Nat
  base : Nat
  cap : Nat
  len : Nat
  sz : Nat
  nil : Bool
  deriving Inhabited

/-- A value that may speak of named objects and buffers. -/
inductive PV where
  | f (x : FV)
  | ptr (n off : Nat)
  | ref (n lo : Nat) (hi : Option Nat)
  | ep (n i off : Nat)
  | agg (cs : List PV)
  | tup (xs : List PV)
  | clo (fn : Fn) (caps : List PV)
  deriving Inhabited

inductive Rep (φ : Nat → Phys) (nx : Nat) (w : World) (S : Nat → Nat → Prop) : PV → Value → Prop where
  | f {x v} : RepF w S x v → Rep φ nx w S (.f x) v
  | ptr {n off} : n < nx → Rep φ nx w S (.ptr n off) (.pointer (some ⟨(φ n).blk, off, none⟩))
  | refnil {n hi} : n < nx → (φ n).nil = true → (φ n).len = 0 → hi.getD 0 = 0 → Rep φ nx w S (.ref n 0 hi) (.slice none 0 0)
  | ref {n lo hi cap A} : n < nx → (φ n).nil = false → lo ≤ hi.getD (φ n).len → hi.getD (φ n).len ≤ (φ n).len → (φ n).cap = lo + cap → (φ n).len ≤ (φ n).cap →
      (cap ≠ 0 → A = ⟨(φ n).blk, (φ n).base + lo * (φ n).sz, none⟩) → Rep φ nx w S (.ref n lo hi) (.slice (some A) (hi.getD (φ n).len - lo) cap)
  | ep {n i off} : n < nx → (φ n).nil = false → i < (φ n).len → Rep φ nx w S (.ep n i off) (.pointer (some ⟨(φ n).blk, (φ n).base + i * (φ n).sz + off, none⟩))
  | agg (cs : List PV) (vs : Array Value) : vs.size = cs.length →
      (∀ (i : Nat) u, vs[i]? = some u → one u = true) →
      (∀ (i : Nat) c u, cs[i]? = some c → vs[i]? = some u → Rep φ nx w S c u) → Rep φ nx w S (.agg cs) (.agg vs)
  | tup (cs : List PV) (vs : Array Value) : vs.size = cs.length →
      (∀ (i : Nat) c u, cs[i]? = some c → vs[i]? = some u → Rep φ nx w S c u) → Rep φ nx w S (.tup cs) (.tuple vs)
  | clo (fn : Fn) (cs : List PV) (vs : Array Value) : vs.size = cs.length →
      (∀ (i : Nat) c u, cs[i]? = some c → vs[i]? = some u → Rep φ nx w S c u) → Rep φ nx w S (.clo fn cs) (.func fn #[] vs)

theorem Rep.step {φ φ' : Nat → Phys} {nx nx' : Nat} {w w' : World} {S S' : Nat → Nat → Prop} (hφ : ∀ n, n < nx → φ' n = φ n) (hn : nx ≤ nx') (hm : Mono w S w' S') :
    ∀ {x v}, Rep φ nx w S x v → Rep φ' nx' w' S' x v := by
  intro x v h
  induction h with
  | f h => exact .f (h.step hm)
  | @ptr n off h => rw [← hφ n h]; exact .ptr (Nat.lt_of_lt_of_le h hn)
  | @refnil n hi h h1 h2 h3 => exact .refnil (Nat.lt_of_lt_of_le h hn) (by rw [hφ n h]; exact h1) (by rw [hφ n h]; exact h2) h3
  | @ref n lo hi cap A h h1 h2 h3 h4 h5 h6 =>
    rw [← hφ n h] at h1 h2 h3 h4 h5 h6 ⊢
    exact .ref (Nat.lt_of_lt_of_le h hn) h1 h2 h3 h4 h5 h6
  | @ep n i off h h1 h2 =>
    rw [← hφ n h] at h1 h2 ⊢
    exact .ep (Nat.lt_of_lt_of_le h hn) h1 h2
  | agg cs vs hs ho _ ih => exact .agg cs vs hs ho ih
  | tup cs vs hs _ ih => exact .tup cs vs hs ih
  | clo fn cs vs hs _ ih => exact .clo fn cs vs hs ih

def PV.cells : PV → List PV
  | .agg cs => cs
  | .f (.agg cs) => cs.map .f
  | x => [x]

/-- Is it told as the value of one cell? -/
def PV.one : PV → Bool
  | .f (.v x) => Pv.one x
  | .f (.agg _) => false
  | .f _ => true
  | .agg _ | .tup _ => false
  | _ => true

inductive Obj where
  | obj (cs : List PV)
  | buf (wr : Bool) (sz : Nat) (l : List FV)
  | mp (r : Nat) (es : List (Int × Int))
  deriving Inhabited

abbrev Heap := List (Nat × Obj)
abbrev Env := List (Nat × PV)

def look {α : Type} : List (Nat × α) → Nat → Option α
  | [], _ => none
  | (k, x) :: t, n => if k = n then some x else look t n

def drop {α : Type} : List (Nat × α) → Nat → List (Nat × α)
  | [], _ => []
  | (k, x) :: t, n => if k = n then drop t n else (k, x) :: drop t n

theorem look_cons_same {α : Type} (t : List (Nat × α)) (n : Nat) (x : α) : look ((n, x) :: t) n = some x := by simp [look]
theorem look_cons_ne {α : Type} (t : List (Nat × α)) {k n : Nat} (x : α) (h : k ≠ n) : look ((k, x) :: t) n = look t n := by simp [look, h]
theorem look_drop_same {α : Type} (t : List (Nat × α)) (n : Nat) : look (drop t n) n = none := by
  induction t with
  | nil => rfl
  | cons p t ih => obtain ⟨k, x⟩ := p; by_cases h : k = n <;> simp [drop, look, h, ih]
theorem look_drop_ne {α : Type} (t : List (Nat × α)) {k n : Nat} (h : k ≠ n) : look (drop t k) n = look t n := by
  induction t with
  | nil => rfl
  | cons p t ih =>
    obtain ⟨q, x⟩ := p
    by_cases hq : q = k
    · subst hq; simp [drop, look, h, ih]
    · by_cases hn : q = n
      · simp [drop, look, hn, show ¬ (n = k) from fun e => h e.symm]
      · simp [drop, look, hq, hn, ih]

theorem look_mem {α : Type} {H : List (Nat × α)} {n : Nat} {o : α} (h : look H n = some o) : (n, o) ∈ H := by
  induction H with
  | nil => simp [look] at h
  | cons p H ih =>
    obtain ⟨k, x⟩ := p
    simp only [look] at h
    split at h
    · rename_i hk; cases h; subst hk; simp
    · exact List.mem_cons_of_mem _ (ih h)

/-- From where on a named thing's block is its own. -/
def lim (p : Phys) : Obj → Nat
  | .obj _ => 0
  | .buf true _ _ => 0
  | .buf false sz l => p.base + l.length * sz
  | .mp _ _ => 0
/-- A map's row, as the machine holds it. -/
def mpE (e : Int × Int) : Value × Value := (.int .i64 e.1, .int .i64 e.2)

def Own (φ : Nat → Phys) (H : Heap) (b off : Nat) : Prop := ∃ n o, look H n = some o ∧ (φ n).nil = false ∧ (φ n).blk = b ∧ lim (φ n) o ≤ off

def SS (So : Nat → Nat → Prop) (φ : Nat → Phys) (H : Heap) (b off : Nat) : Prop := So b off ∨ Own φ H b off

def SatO (φ : Nat → Phys) (nx : Nat) (w : World) (S : Nat → Nat → Prop) (n : Nat) : Obj → Prop
  | .obj cs => (φ n).nil = false ∧ ∃ arr ty, w.heap[(φ n).blk]? = some (.cells arr ty (0, 0)) ∧ arr.size = cs.length ∧
      ∀ (i : Nat) c, cs[i]? = some c → ∃ u, arr[i]? = some u ∧ one u = true ∧ Rep φ nx w S c u
  | .buf _ sz l => (φ n).len = l.length ∧ (φ n).sz = sz ∧ (((φ n).nil = true ∧ l = []) ∨
      ((φ n).nil = false ∧ ∃ arr ty, w.heap[(φ n).blk]? = some (.cells arr ty (0, 0)) ∧ (φ n).base + (φ n).cap * sz ≤ arr.size ∧ l.length ≤ (φ n).cap ∧
        (∀ (i : Nat) x, l[i]? = some x → x.cells.length = sz) ∧
        ∀ (i : Nat) x (j : Nat) c, l[i]? = some x → x.cells[j]? = some c → ∃ u, arr[(φ n).base + i * sz + j]? = some u ∧ one u = true ∧ RepF w S c u))
  | .mp r es => (φ n).nil = false ∧ (φ n).blk = r ∧ ∃ ents clock, w.heap[r]? = some (.map ents clock) ∧ ents.toList.map (fun m => (m.key, m.val)) = es.map mpE

structure Ok (φ : Nat → Phys) (nx : Nat) (So : Nat → Nat → Prop) (H : Heap) (w : World) : Prop where
  obj : ∀ n o, look H n = some o → n < nx ∧ SatO φ nx w (SS So φ H) n o
  dis : ∀ n m o o', look H n = some o → look H m = some o' → n ≠ m → (φ n).nil = false → (φ m).nil = false → (φ n).blk ≠ (φ m).blk
  out : ∀ n o, look H n = some o → (φ n).nil = false → ∀ off, ¬ So (φ n).blk off

/-- What a run may have turned: what it owned, or what is new. -/
structure Ext (w w' : World) (O O' : Nat → Nat → Prop) : Prop where
  os : w'.os = w.os
  tape : w'.tape = w.tape
  output : w'.output = w.output
  size : w.heap.size ≤ w'.heap.size
  blk : ∀ b, b < w.heap.size → (∀ off, ¬ O b off) → w'.heap[b]? = w.heap[b]?
  cell : ∀ b off, b < w.heap.size → ¬ O b off → w'.cell? ⟨b, off, none⟩ = w.cell? ⟨b, off, none⟩
  own : ∀ b off, b < w.heap.size → O' b off → O b off

theorem Ext.refl (w : World) (O : Nat → Nat → Prop) : Ext w w O O := ⟨rfl, rfl, rfl, Nat.le_refl _, fun _ _ _ => rfl, fun _ _ _ _ => rfl, fun _ _ _ h => h⟩

theorem Ext.trans {w w1 w2 : World} {O O1 O2 : Nat → Nat → Prop} (h : Ext w w1 O O1) (k : Ext w1 w2 O1 O2) : Ext w w2 O O2 where
  os := k.os.trans h.os
  tape := k.tape.trans h.tape
  output := k.output.trans h.output
  size := Nat.le_trans h.size k.size
  blk b hb hO := by
    rw [k.blk b (Nat.lt_of_lt_of_le hb h.size) (fun off ho => hO off (h.own b off hb ho)), h.blk b hb hO]
  cell b off hb hO := by
    rw [k.cell b off (Nat.lt_of_lt_of_le hb h.size) (fun ho => hO (h.own b off hb ho)), h.cell b off hb hO]
  own b off hb ho := h.own b off hb (k.own b off (Nat.lt_of_lt_of_le hb h.size) ho)

theorem cell_lt {w : World} {b off : Nat} {u : Value} (h : w.cell? ⟨b, off, none⟩ = some u) : b < w.heap.size := World.block_lt_of_cell? _ _ h

/-- What is not its own stays readable, and comes into nobody's hands. -/
theorem Ext.mono {w w' : World} {O O' So : Nat → Nat → Prop} (h : Ext w w' O O') : Mono w (fun b off => So b off ∨ O b off) w' (fun b off => So b off ∨ O' b off) := by
  intro b off u hc hS
  have hb := cell_lt hc
  refine ⟨by rw [h.cell b off hb (fun ho => hS (.inr ho))]; exact hc, ?_⟩
  rintro (hs | ho)
  · exact hS (.inl hs)
  · exact hS (.inr (h.own b off hb ho))

structure Ctx where
  w0 : World
  So : Nat → Nat → Prop
  O0 : Nat → Nat → Prop
  k : Nat
  φ0 : Nat → Phys
  nt : Nat
  low : ∀ b off, So b off → b < w0.heap.size

structure StΦ (c : Ctx) (nx : Nat) (env : Env) (H : Heap) (φ : Nat → Phys) (tmps : Array Value) (w : World) : Prop where
  ok : Ok φ nx c.So H w
  env : ∀ k pv, look env k = some pv → ∃ v, tmps[k]? = some v ∧ Rep φ nx w (SS c.So φ H) pv v
  ext : Ext c.w0 w c.O0 (Own φ H)
  keep : c.k ≤ nx ∧ ∀ n, n < c.k → φ n = c.φ0 n
  size : tmps.size = c.nt

def St (c : Ctx) (nx : Nat) (env : Env) (H : Heap) (tmps : Array Value) (w : World) : Prop := ∃ φ, StΦ c nx env H φ tmps w

theorem SS_eq (So : Nat → Nat → Prop) (φ : Nat → Phys) (H : Heap) : SS So φ H = fun b off => So b off ∨ Own φ H b off := rfl

theorem StΦ.next {c : Ctx} {nx nx' : Nat} {env : Env} {H H' : Heap} {φ φ' : Nat → Phys} {tmps : Array Value} {w w' : World} (h : StΦ c nx env H φ tmps w)
    (hφ : ∀ n, n < nx → φ' n = φ n) (hn : nx ≤ nx') (hok : Ok φ' nx' c.So H' w') (he : Ext w w' (Own φ H) (Own φ' H')) : StΦ c nx' env H' φ' tmps w' where
  ok := hok
  env k pv hk := by
    obtain ⟨v, h1, h2⟩ := h.env k pv hk
    exact ⟨v, h1, h2.step hφ hn he.mono⟩
  ext := h.ext.trans he
  keep := ⟨Nat.le_trans h.keep.1 hn, fun n hk => by rw [hφ n (Nat.lt_of_lt_of_le hk h.keep.1)]; exact h.keep.2 n hk⟩
  size := h.size

theorem StΦ.put {c : Ctx} {nx : Nat} {env : Env} {H : Heap} {φ : Nat → Phys} {tmps : Array Value} {w : World} (h : StΦ c nx env H φ tmps w) {pv : PV} {v : Value} {d : Nat}
    (hr : Rep φ nx w (SS c.So φ H) pv v) (hd : d < c.nt) : StΦ c nx ((d, pv) :: env) H φ (tmps.setIfInBounds d v) w where
  ok := h.ok
  env k p hk := by
    by_cases e : d = k
    · subst e
      rw [look_cons_same] at hk
      cases hk
      exact ⟨v, by simp [h.size, hd], hr⟩
    · rw [look_cons_ne _ _ e] at hk
      obtain ⟨u, h1, h2⟩ := h.env k p hk
      exact ⟨u, by rw [Array.getElem?_setIfInBounds]; simp [e, h1], h2⟩
  ext := h.ext
  keep := h.keep
  size := by simp [h.size]

theorem StΦ.forget {c : Ctx} {nx : Nat} {env : Env} {H : Heap} {φ : Nat → Phys} {tmps : Array Value} {w : World} (h : StΦ c nx env H φ tmps w) {d : Nat} (v : Value) :
    StΦ c nx (drop env d) H φ (tmps.setIfInBounds d v) w where
  ok := h.ok
  env k p hk := by
    by_cases e : d = k
    · subst e; rw [look_drop_same] at hk; cases hk
    · rw [look_drop_ne _ e] at hk
      obtain ⟨u, h1, h2⟩ := h.env k p hk
      exact ⟨u, by rw [Array.getElem?_setIfInBounds]; simp [e, h1], h2⟩
  ext := h.ext
  keep := h.keep
  size := by simp [h.size]

end Go.Proofs.YtnajikpdnccilaaGreat.Pv
