/- What the law TopCounts needs, and no more: merged out of texts of this session by a program of it (wip/tools/prune.py). -/
import Derived.Tactics
import Derived.Below
import Derived.Laws.World
import Derived.Laws.Tables
import Derived.Laws.CopyRow
import Derived.WalkKit
import Derived.Laws.MakeOwn
import Derived.Laws.Append
import Derived.Laws.IdiomCopy
import Derived.MapKept
import Derived.Laws.BytesString
import Derived.Laws.StructEq
import Derived.Orders
import Derived.ChangeArms
import Derived.ChangeSlices
import Derived.SizedLaws
import Derived.Test.YtmingcnmgdgokaaGreatProg
import Derived.KernelRfl
namespace Go.Proofs.YtmingcnmgdgokaaGreat.Pv
open Go
inductive FV where
  | v (x : Value)
  | sl (sz : Nat) (clip : Bool) (l : List FV)
  | ro (x : FV)
  | agg (cs : List FV)
  deriving Inhabited
def FV.cells : FV → List FV
  | .agg cs => cs
  | .v x => [.v x]
  | .sl a b c => [.sl a b c]
  | .ro x => [.ro x]
abbrev one (v : Value) : Bool := v.oneCell'
inductive RepF (w : World) (S : Nat → Nat → Prop) : FV → Value → Prop where
  | v (x : Value) : RepF w S (.v x) x
  | agg (cs : List FV) (vs : Array Value) : vs.size = cs.length →
      (∀ (i : Nat) u,vs[i]? = some u → one u = true) →
      (∀ (i : Nat) c u,cs[i]? = some c → vs[i]? = some u → RepF w S c u) → RepF w S (.agg cs) (.agg vs)
  | slnil (sz : Nat) (clip : Bool) : RepF w S (.sl sz clip []) (.slice none 0 0)
  | slemp (sz : Nat) (clip : Bool) (A : Addr) : RepF w S (.sl sz clip []) (.slice (some A) 0 0)
  | sl (sz : Nat) (clip : Bool) (l : List FV) (b off cap : Nat) (val : Nat → Nat → Value) : l.length ≤ cap → (clip = true → cap = l.length) →
      (∀ (i : Nat) x,l[i]? = some x → x.cells.length = sz) →
      (∀ (i : Nat) x (j : Nat) c,l[i]? = some x → x.cells[j]? = some c →
        w.cell? ⟨b,off + i * sz + j,none⟩ = some (val i j) ∧ ¬ S b (off + i * sz + j) ∧ one (val i j) = true) →
      (∀ (i : Nat) x (j : Nat) c,l[i]? = some x → x.cells[j]? = some c → RepF w S c (val i j)) →
      RepF w S (.sl sz clip l) (.slice (some ⟨b,off,none⟩) l.length cap)
  | ro (x : FV) (b off : Nat) (val : Nat → Value) :
      (∀ (j : Nat) c,x.cells[j]? = some c → w.cell? ⟨b,off + j,none⟩ = some (val j) ∧ ¬ S b (off + j) ∧ one (val j) = true) →
      (∀ (j : Nat) c,x.cells[j]? = some c → RepF w S c (val j)) → RepF w S (.ro x) (.pointer (some ⟨b,off,none⟩))
def Mono (w : World) (S : Nat → Nat → Prop) (w' : World) (S' : Nat → Nat → Prop) : Prop :=
  ∀ b off u,w.cell? ⟨b,off,none⟩ = some u → ¬ S b off → w'.cell? ⟨b,off,none⟩ = some u ∧ ¬ S' b off
theorem Mono.refl (w : World) (S : Nat → Nat → Prop) : Mono w S w S := fun _ _ _ h h' => ⟨h,h'⟩
theorem Mono.trans {w w1 w2 : World}{S S1 S2 : Nat → Nat → Prop} (h : Mono w S w1 S1) (k : Mono w1 S1 w2 S2) : Mono w S w2 S2 :=
  fun b off u h1 h2 => k b off u (h b off u h1 h2).1 (h b off u h1 h2).2
theorem RepF.step {w w' : World}{S S' : Nat → Nat → Prop} (hm : Mono w S w' S') : ∀ {x v},RepF w S x v → RepF w' S' x v := by
  intro x v h
  induction h with
  | v x => exact .v x
  | agg cs vs hs ho _ ih => exact .agg cs vs hs ho ih
  | slnil sz clip => exact .slnil sz clip
  | slemp sz clip A => exact .slemp sz clip A
  | sl sz clip l b off cap val h1 h2 h3 h4 _ ih =>
    refine .sl sz clip l b off cap val h1 h2 h3 (fun i x j c e1 e2 => ?_) ih
    obtain ⟨a1,a2,a3⟩ := h4 i x j c e1 e2
    obtain ⟨b1,b2⟩ := hm _ _ _ a1 a2
    exact ⟨b1,b2,a3⟩
  | ro x b off val h _ ih =>
    refine .ro x b off val (fun j c e => ?_) ih
    obtain ⟨a1,a2,a3⟩ := h j c e
    obtain ⟨b1,b2⟩ := hm _ _ _ a1 a2
    exact ⟨b1,b2,a3⟩
structure Phys where
  blk : Nat
  base : Nat
  cap : Nat
  len : Nat
  sz : Nat
  nil : Bool
  deriving Inhabited
inductive PV where
  | f (x : FV)
  | ptr (n off : Nat)
  | ref (n lo : Nat) (hi : Option Nat)
  | ep (n i off : Nat)
  | agg (cs : List PV)
  | tup (xs : List PV)
  | clo (fn : Fn) (caps : List PV)
  deriving Inhabited
inductive Rep (φ : Nat → Phys) (nx : Nat) (w : World) (S : Nat → Nat → Prop) : PV → Value → Prop where
  | f {x v} : RepF w S x v → Rep φ nx w S (.f x) v
  | ptr {n off} : n < nx → Rep φ nx w S (.ptr n off) (.pointer (some ⟨(φ n).blk,off,none⟩))
  | refnil {n hi} : n < nx → (φ n).nil = true → (φ n).len = 0 → hi.getD 0 = 0 → Rep φ nx w S (.ref n 0 hi) (.slice none 0 0)
  | ref {n lo hi cap A} : n < nx → (φ n).nil = false → lo ≤ hi.getD (φ n).len → hi.getD (φ n).len ≤ (φ n).len → (φ n).cap = lo + cap → (φ n).len ≤ (φ n).cap →
      (cap ≠ 0 → A = ⟨(φ n).blk,(φ n).base + lo * (φ n).sz,none⟩) → Rep φ nx w S (.ref n lo hi) (.slice (some A) (hi.getD (φ n).len - lo) cap)
  | ep {n i off} : n < nx → (φ n).nil = false → i < (φ n).len → Rep φ nx w S (.ep n i off) (.pointer (some ⟨(φ n).blk,(φ n).base + i * (φ n).sz + off,none⟩))
  | agg (cs : List PV) (vs : Array Value) : vs.size = cs.length →
      (∀ (i : Nat) u,vs[i]? = some u → one u = true) →
      (∀ (i : Nat) c u,cs[i]? = some c → vs[i]? = some u → Rep φ nx w S c u) → Rep φ nx w S (.agg cs) (.agg vs)
  | tup (cs : List PV) (vs : Array Value) : vs.size = cs.length →
      (∀ (i : Nat) c u,cs[i]? = some c → vs[i]? = some u → Rep φ nx w S c u) → Rep φ nx w S (.tup cs) (.tuple vs)
  | clo (fn : Fn) (cs : List PV) (vs : Array Value) : vs.size = cs.length →
      (∀ (i : Nat) c u,cs[i]? = some c → vs[i]? = some u → Rep φ nx w S c u) → Rep φ nx w S (.clo fn cs) (.func fn #[] vs)
theorem Rep.step {φ φ' : Nat → Phys}{nx nx' : Nat}{w w' : World}{S S' : Nat → Nat → Prop} (hφ : ∀ n,n < nx → φ' n = φ n) (hn : nx ≤ nx') (hm : Mono w S w' S') :
    ∀ {x v},Rep φ nx w S x v → Rep φ' nx' w' S' x v := by
  intro x v h
  induction h with
  | f h => exact .f (h.step hm)
  | @ptr n off h => rw [← hφ n h]; exact .ptr (Nat.lt_of_lt_of_le h hn)
  | @refnil n hi h h1 h2 h3 => exact .refnil (Nat.lt_of_lt_of_le h hn) (by rw [hφ n h]; exact h1) (by rw [hφ n h]; exact h2) h3
  | @ref n lo hi cap A h h1 h2 h3 h4 h5 h6 =>
    rw [← hφ n h] at h1 h2 h3 h4 h5 h6 ⊢
    exact .ref (Nat.lt_of_lt_of_le h hn) h1 h2 h3 h4 h5 h6
  | @ep n i off h h1 h2 =>
    rw [← hφ n h] at h1 h2 ⊢
    exact .ep (Nat.lt_of_lt_of_le h hn) h1 h2
  | agg cs vs hs ho _ ih => exact .agg cs vs hs ho ih
  | tup cs vs hs _ ih => exact .tup cs vs hs ih
  | clo fn cs vs hs _ ih => exact .clo fn cs vs hs ih
def PV.cells : PV → List PV
  | .agg cs => cs
  | .f (.agg cs) => cs.map .f
  | x => [x]
def PV.one : PV → Bool
  | .f (.v x) => Pv.one x
  | .f (.agg _) => false
  | .f _ => true
  | .agg _|.tup _ => false
  | _ => true
inductive Obj where
  | obj (cs : List PV)
  | buf (wr : Bool) (sz : Nat) (l : List FV)
  | mp (r : Nat) (es : List (Int × Int))
  deriving Inhabited
abbrev Heap := List (Nat × Obj)
abbrev Env := List (Nat × PV)
def look {α : Type} : List (Nat × α) → Nat → Option α
  | [],_ => none
  | (k,x) :: t,n => if k = n then some x else look t n
def drop {α : Type} : List (Nat × α) → Nat → List (Nat × α)
  | [],_ => []
  | (k,x) :: t,n => if k = n then drop t n else (k,x) :: drop t n
theorem look_cons_same {α : Type} (t : List (Nat × α)) (n : Nat) (x : α) : look ((n,x) :: t) n = some x := by simp [look]
theorem look_cons_ne {α : Type} (t : List (Nat × α)) {k n : Nat} (x : α) (h : k ≠ n) : look ((k,x) :: t) n = look t n := by simp [look,h]
theorem look_drop_same {α : Type} (t : List (Nat × α)) (n : Nat) : look (drop t n) n = none := by
  induction t with
  | nil => rfl
  | cons p t ih => obtain ⟨k,x⟩ := p; by_cases h : k = n <;> simp [drop,look,h,ih]
theorem look_drop_ne {α : Type} (t : List (Nat × α)) {k n : Nat} (h : k ≠ n) : look (drop t k) n = look t n := by
  induction t with
  | nil => rfl
  | cons p t ih =>
    obtain ⟨q,x⟩ := p
    by_cases hq : q = k
    · subst hq; simp [drop,look,h,ih]
    · by_cases hn : q = n
      · simp [drop,look,hn,show ¬ (n = k) from fun e => h e.symm]
      · simp [drop,look,hq,hn,ih]
theorem look_mem {α : Type}{H : List (Nat × α)}{n : Nat}{o : α} (h : look H n = some o) : (n,o) ∈ H := by
  induction H with
  | nil => simp [look] at h
  | cons p H ih =>
    obtain ⟨k,x⟩ := p
    simp only [look] at h
    split at h
    · rename_i hk; cases h; subst hk; simp
    · exact List.mem_cons_of_mem _ (ih h)
def lim (p : Phys) : Obj → Nat
  | .obj _ => 0
  | .buf true _ _ => 0
  | .buf false sz l => p.base + l.length * sz
  | .mp _ _ => 0
def mpE (e : Int × Int) : Value × Value := (.int .i64 e.1,.int .i64 e.2)
def Own (φ : Nat → Phys) (H : Heap) (b off : Nat) : Prop := ∃ n o,look H n = some o ∧ (φ n).nil = false ∧ (φ n).blk = b ∧ lim (φ n) o ≤ off
def SS (So : Nat → Nat → Prop) (φ : Nat → Phys) (H : Heap) (b off : Nat) : Prop := So b off ∨ Own φ H b off
def SatO (φ : Nat → Phys) (nx : Nat) (w : World) (S : Nat → Nat → Prop) (n : Nat) : Obj → Prop
  | .obj cs => (φ n).nil = false ∧ ∃ arr ty,w.heap[(φ n).blk]? = some (.cells arr ty (0,0)) ∧ arr.size = cs.length ∧
      ∀ (i : Nat) c,cs[i]? = some c → ∃ u,arr[i]? = some u ∧ one u = true ∧ Rep φ nx w S c u
  | .buf _ sz l => (φ n).len = l.length ∧ (φ n).sz = sz ∧ (((φ n).nil = true ∧ l = []) ∨
      ((φ n).nil = false ∧ ∃ arr ty,w.heap[(φ n).blk]? = some (.cells arr ty (0,0)) ∧ (φ n).base + (φ n).cap * sz ≤ arr.size ∧ l.length ≤ (φ n).cap ∧
        (∀ (i : Nat) x,l[i]? = some x → x.cells.length = sz) ∧
        ∀ (i : Nat) x (j : Nat) c,l[i]? = some x → x.cells[j]? = some c → ∃ u,arr[(φ n).base + i * sz + j]? = some u ∧ one u = true ∧ RepF w S c u))
  | .mp r es => (φ n).nil = false ∧ (φ n).blk = r ∧ ∃ ents clock,w.heap[r]? = some (.map ents clock) ∧ ents.toList.map (fun m => (m.key,m.val)) = es.map mpE
structure Ok (φ : Nat → Phys) (nx : Nat) (So : Nat → Nat → Prop) (H : Heap) (w : World) : Prop where
  obj : ∀ n o,look H n = some o → n < nx ∧ SatO φ nx w (SS So φ H) n o
  dis : ∀ n m o o',look H n = some o → look H m = some o' → n ≠ m → (φ n).nil = false → (φ m).nil = false → (φ n).blk ≠ (φ m).blk
  out : ∀ n o,look H n = some o → (φ n).nil = false → ∀ off,¬ So (φ n).blk off
structure Ext (w w' : World) (O O' : Nat → Nat → Prop) : Prop where
  os : w'.os = w.os
  tape : w'.tape = w.tape
  output : w'.output = w.output
  size : w.heap.size ≤ w'.heap.size
  blk : ∀ b,b < w.heap.size → (∀ off,¬ O b off) → w'.heap[b]? = w.heap[b]?
  cell : ∀ b off,b < w.heap.size → ¬ O b off → w'.cell? ⟨b,off,none⟩ = w.cell? ⟨b,off,none⟩
  own : ∀ b off,b < w.heap.size → O' b off → O b off
theorem Ext.refl (w : World) (O : Nat → Nat → Prop) : Ext w w O O := ⟨rfl,rfl,rfl,Nat.le_refl _,fun _ _ _ => rfl,fun _ _ _ _ => rfl,fun _ _ _ h => h⟩
theorem Ext.trans {w w1 w2 : World}{O O1 O2 : Nat → Nat → Prop} (h : Ext w w1 O O1) (k : Ext w1 w2 O1 O2) : Ext w w2 O O2 where
  os := k.os.trans h.os
  tape := k.tape.trans h.tape
  output := k.output.trans h.output
  size := Nat.le_trans h.size k.size
  blk b hb hO := by
    rw [k.blk b (Nat.lt_of_lt_of_le hb h.size) (fun off ho => hO off (h.own b off hb ho)),h.blk b hb hO]
  cell b off hb hO := by
    rw [k.cell b off (Nat.lt_of_lt_of_le hb h.size) (fun ho => hO (h.own b off hb ho)),h.cell b off hb hO]
  own b off hb ho := h.own b off hb (k.own b off (Nat.lt_of_lt_of_le hb h.size) ho)
theorem cell_lt {w : World}{b off : Nat}{u : Value} (h : w.cell? ⟨b,off,none⟩ = some u) : b < w.heap.size := World.block_lt_of_cell? _ _ h
theorem Ext.mono {w w' : World}{O O' So : Nat → Nat → Prop} (h : Ext w w' O O') : Mono w (fun b off => So b off ∨ O b off) w' (fun b off => So b off ∨ O' b off) := by
  intro b off u hc hS
  have hb := cell_lt hc
  refine ⟨by rw [h.cell b off hb (fun ho => hS (.inr ho))]; exact hc, ?_⟩
  rintro (hs|ho)
  · exact hS (.inl hs)
  · exact hS (.inr (h.own b off hb ho))
structure Ctx where
  w0 : World
  So : Nat → Nat → Prop
  O0 : Nat → Nat → Prop
  k : Nat
  φ0 : Nat → Phys
  nt : Nat
  low : ∀ b off,So b off → b < w0.heap.size
structure StΦ (c : Ctx) (nx : Nat) (env : Env) (H : Heap) (φ : Nat → Phys) (tmps : Array Value) (w : World) : Prop where
  ok : Ok φ nx c.So H w
  env : ∀ k pv,look env k = some pv → ∃ v,tmps[k]? = some v ∧ Rep φ nx w (SS c.So φ H) pv v
  ext : Ext c.w0 w c.O0 (Own φ H)
  keep : c.k ≤ nx ∧ ∀ n,n < c.k → φ n = c.φ0 n
  size : tmps.size = c.nt
def St (c : Ctx) (nx : Nat) (env : Env) (H : Heap) (tmps : Array Value) (w : World) : Prop := ∃ φ,StΦ c nx env H φ tmps w
theorem StΦ.next {c : Ctx}{nx nx' : Nat}{env : Env}{H H' : Heap}{φ φ' : Nat → Phys}{tmps : Array Value}{w w' : World} (h : StΦ c nx env H φ tmps w)
    (hφ : ∀ n,n < nx → φ' n = φ n) (hn : nx ≤ nx') (hok : Ok φ' nx' c.So H' w') (he : Ext w w' (Own φ H) (Own φ' H')) : StΦ c nx' env H' φ' tmps w' where
  ok := hok
  env k pv hk := by
    obtain ⟨v,h1,h2⟩ := h.env k pv hk
    exact ⟨v,h1,h2.step hφ hn he.mono⟩
  ext := h.ext.trans he
  keep := ⟨Nat.le_trans h.keep.1 hn,fun n hk => by rw [hφ n (Nat.lt_of_lt_of_le hk h.keep.1)]; exact h.keep.2 n hk⟩
  size := h.size
theorem StΦ.put {c : Ctx}{nx : Nat}{env : Env}{H : Heap}{φ : Nat → Phys}{tmps : Array Value}{w : World} (h : StΦ c nx env H φ tmps w) {pv : PV}{v : Value}{d : Nat}
    (hr : Rep φ nx w (SS c.So φ H) pv v) (hd : d < c.nt) : StΦ c nx ((d,pv) :: env) H φ (tmps.setIfInBounds d v) w where
  ok := h.ok
  env k p hk := by
    by_cases e : d = k
    · subst e
      rw [look_cons_same] at hk
      cases hk
      exact ⟨v,by simp [h.size,hd],hr⟩
    · rw [look_cons_ne _ _ e] at hk
      obtain ⟨u,h1,h2⟩ := h.env k p hk
      exact ⟨u,by rw [Array.getElem?_setIfInBounds]; simp [e,h1],h2⟩
  ext := h.ext
  keep := h.keep
  size := by simp [h.size]
inductive Kd where
  | bool|int (k : IntKind)|str|ptr (e : Nat)|slice (e : Nat)|arr (n e : Nat)|struct (fs : List (Nat × Nat))|func|other
  deriving Inhabited
structure TI where
  kd : Kd
  size : Nat
  bytes : Nat
  zero : List Value
  deriving Inhabited
def Kd.agg : Kd → Bool
  | .arr ..|.struct _ => true
  | _ => false
def Under (P : Program) (t : Nat) : Kd → Prop
  | .bool => P.underlying t = some .bool
  | .int k => P.underlying t = some (.int k)
  | .str => P.underlying t = some .string
  | .ptr e => P.underlying t = some (.pointer e)
  | .slice e => P.underlying t = some (.slice e)
  | .arr n e => P.underlying t = some (.array n e)
  | .struct fs => ∃ F,P.underlying t = some (.struct F) ∧ F.toList.map (fun f => (f.offset,f.type)) = fs
  | .func => ∃ a b c,P.underlying t = some (.func a b c)
  | .other => False
structure TIok (P : Program) (t : Nat) (i : TI) : Prop where
  info : ∃ ti z,P.info? t = some ti ∧ ti.size = i.size ∧ ti.bytes = i.bytes ∧ ti.zero = some z ∧ z.cells = i.zero.toArray ∧ (i.kd.agg = true → z = .agg i.zero.toArray)
  under : Under P t i.kd
  len : i.zero.length = i.size
  ones : ∀ z ∈ i.zero,one z = true
abbrev Tab := Nat → Option TI
def TabOk (P : Program) (tab : Tab) : Prop := ∀ t i,tab t = some i → TIok P t i
def AllTI (P : Program) : List (Nat × TI) → Prop
  | [] => True
  | p :: t => TIok P p.1 p.2 ∧ AllTI P t
theorem TabOk.of {P : Program}{l : List (Nat × TI)} (h : AllTI P l) : TabOk P (look l) := by
  intro t i hi
  have hm := look_mem hi
  induction l with
  | nil => cases hm
  | cons p l ih =>
    rcases List.mem_cons.1 hm with e|e
    · subst e; exact h.1
    · have : ∀ l : List (Nat × TI),AllTI P l → ∀ q,q ∈ l → TIok P q.1 q.2 := by
        intro l; induction l with
        | nil => intro _ q hq; cases hq
        | cons p l ih =>
          intro ha q hq
          rcases List.mem_cons.1 hq with e|e
          · subst e; exact ha.1
          · exact ih ha.2 q e
      exact this l h.2 _ e
theorem TIok.of {P : Program}{t : Nat}{i : TI}{z : Value} (h : (P.info? t).map (fun j => (j.zero,j.size,j.bytes)) = some (some z,i.size,i.bytes)) (hz : z.cells = i.zero.toArray) (ha : i.kd.agg = true → z = .agg i.zero.toArray)
    (hl : i.zero.length = i.size) (hu : Under P t i.kd) (ho : (i.zero.all fun v => one v) = true) : TIok P t i := by
  cases hq : P.info? t with
  | none => rw [hq] at h; cases h
  | some ti =>
    rw [hq] at h
    simp only [Option.map_some,Option.some.injEq,Prod.mk.injEq] at h
    exact ⟨⟨ti,z,hq,h.2.1,h.2.2,h.1,hz,ha⟩,hu,hl,fun v hv => List.all_eq_true.1 ho v hv⟩
def ev (env : Env) : Operand → Option PV
  | .tmp t => look env t
  | .const v => some (.f (.v v))
  | .func f => some (.clo (.func f) [])
  | .global _ => none
abbrev act (tmps : Array Value) : Act := { tmps,defers := [] }
theorem ev_rep {c : Ctx}{nx : Nat}{env : Env}{H : Heap}{φ : Nat → Phys}{tmps : Array Value}{w : World} (h : StΦ c nx env H φ tmps w) {x : Operand}{pv : PV}
    (hx : ev env x = some pv) : Rep φ nx w (SS c.So φ H) pv ((act tmps).eval x) := by
  cases x with
  | tmp t =>
    obtain ⟨v,h1,h2⟩ := h.env t pv hx
    have : (act tmps).eval (.tmp t) = v := by simp [Act.eval,Array.getD_eq_getD_getElem?,h1]
    rw [this]; exact h2
  | const v => simp only [ev,Option.some.injEq] at hx; subst hx; exact .f (.v v)
  | func f => simp only [ev,Option.some.injEq] at hx; subst hx; exact .clo (.func f) [] #[] rfl (by simp)
  | global g => cases hx
def Does (P : Program) (o : Oper) (c : Ctx) (nx : Nat) (env : Env) (H : Heap) (K : PV → Nat → Heap → Prop) : Prop :=
  ∀ φ tmps w,StΦ c nx env H φ tmps w → ∀ (next : Act → World → Prop) (Q : Exit → Act → World → Prop),
    (∀ pv nx' H' φ' v w',K pv nx' H' → StΦ c nx' env H' φ' tmps w' → Rep φ' nx' w' (SS c.So φ' H') pv v → next ((act tmps).put o.dst v) w') →
    o.wp P (act tmps) w next Q
theorem Does.mono {P : Program}{o : Oper}{c : Ctx}{nx : Nat}{env : Env}{H : Heap}{K K' : PV → Nat → Heap → Prop} (h : Does P o c nx env H K)
    (hk : ∀ pv nx' H',K pv nx' H' → K' pv nx' H') : Does P o c nx env H K' :=
  fun φ tmps w hs next Q hn => h φ tmps w hs next Q fun pv nx' H' φ' v w' k => hn pv nx' H' φ' v w' (hk _ _ _ k)
theorem Does.value {P : Program}{o : Oper}{c : Ctx}{nx : Nat}{env : Env}{H : Heap}{K : PV → Nat → Heap → Prop}
    (h : ∀ φ tmps w,StΦ c nx env H φ tmps w → ∃ pv nx' H' φ' v w',(execOp (act tmps).eval o).run P w = .ok (.value v) w' ∧ K pv nx' H' ∧
      StΦ c nx' env H' φ' tmps w' ∧ Rep φ' nx' w' (SS c.So φ' H') pv v) : Does P o c nx env H K := by
  intro φ tmps w hs next Q hn
  obtain ⟨pv,nx',H',φ',v,w',hr,hk,hs',hrep⟩ := h φ tmps w hs
  unfold Oper.wp
  rw [hr,Oper.upon_value]
  exact hn pv nx' H' φ' v w' hk hs' hrep
theorem Does.pure {P : Program}{o : Oper}{c : Ctx}{nx : Nat}{env : Env}{H : Heap}{K : PV → Nat → Heap → Prop}
    (h : ∀ φ tmps w,StΦ c nx env H φ tmps w → ∃ pv v,(execOp (act tmps).eval o).run P w = .ok (.value v) w ∧ K pv nx H ∧ Rep φ nx w (SS c.So φ H) pv v) :
    Does P o c nx env H K :=
  Does.value fun φ tmps w hs => by
    obtain ⟨pv,v,h1,h2,h3⟩ := h φ tmps w hs
    exact ⟨pv,nx,H,φ,v,w,h1,h2,hs,h3⟩
theorem Rep.v_inv {φ : Nat → Phys}{nx : Nat}{w : World}{S : Nat → Nat → Prop}{x v : Value} (h : Rep φ nx w S (.f (.v x)) v) : v = x := by
  cases h with|f h => cases h; rfl
section
variable {P : Program}{tab : Tab}{c : Ctx}{nx : Nat}{env : Env}{H : Heap}{K : PV → Nat → Heap → Prop}{o : Oper}
def stepMove (env : Env) (H : Heap) (nx : Nat) (K : PV → Nat → Heap → Prop) (x : Operand) : Prop := ∃ pv,ev env x = some pv ∧ K pv nx H
theorem does_move {x : Operand} (ho : o.op = .move x ∨ o.op = .assign x) (h : stepMove env H nx K x) : Does P o c nx env H K :=
  Does.pure fun φ tmps w hs => by
    obtain ⟨pv,h1,h2⟩ := h
    refine ⟨pv,_, ?_,h2,ev_rep hs h1⟩
    rcases ho with ho|ho <;> simp [execOp,ho]
def stepPick (env : Env) (H : Heap) (nx : Nat) (K : PV → Nat → Heap → Prop) (x a b : Operand) : Prop :=
  ∃ t,ev env x = some (.f (.v (.bool t))) ∧ (t = true → ∃ pa,ev env a = some pa ∧ K pa nx H) ∧ (t = false → ∃ pb,ev env b = some pb ∧ K pb nx H)
theorem does_pick {x a b : Operand} (ho : o.op = .pick x a b) (h : stepPick env H nx K x a b) : Does P o c nx env H K :=
  Does.pure fun φ tmps w hs => by
    obtain ⟨t,h1,h4,h5⟩ := h
    have e := (ev_rep hs h1).v_inv
    cases t with
    | true => obtain ⟨pa,h2,h3⟩ := h4 rfl; exact ⟨pa,_,by simp [execOp,ho,e,asBool],h3,ev_rep hs h2⟩
    | false => obtain ⟨pb,h2,h3⟩ := h5 rfl; exact ⟨pb,_,by simp [execOp,ho,e,asBool],h3,ev_rep hs h2⟩
def bitI (op : BinOp) (k : IntKind) (x y : Int) : Int :=
  let a := BitVec.ofInt k.bits x
  let b := BitVec.ofInt k.bits y
  match op with
  | .and => k.wrap (a &&& b).toNat
  | .or => k.wrap (a ||| b).toNat
  | .xor => k.wrap (a ^^^ b).toNat
  | _ => k.wrap (a &&& ~~~b).toNat
def stepBin (op : BinOp) (kd : Kd) (C : Value → Prop) : Value → Value → Prop
  | .int k a,.int k' b =>
    match op with
    | .shl => 0 ≤ b ∧ C (.int k (k.wrap (a * 2 ^ min b.toNat k.bits)))
    | .shr => 0 ≤ b ∧ C (.int k (a.fdiv (2 ^ min b.toNat k.bits)))
    | .add => k = k' ∧ C (.int k (k.wrap (a + b)))
    | .sub => k = k' ∧ C (.int k (k.wrap (a - b)))
    | .mul => k = k' ∧ C (.int k (k.wrap (a * b)))
    | .quo => k = k' ∧ b ≠ 0 ∧ C (.int k (k.wrap (a.tdiv b)))
    | .rem => k = k' ∧ b ≠ 0 ∧ C (.int k (a.tmod b))
    | .and => k = k' ∧ C (.int k (bitI .and k a b))
    | .or => k = k' ∧ C (.int k (bitI .or k a b))
    | .xor => k = k' ∧ C (.int k (bitI .xor k a b))
    | .andNot => k = k' ∧ C (.int k (bitI .andNot k a b))
    | .eql => k = k' ∧ C (.bool (decide (a = b)))
    | .neq => k = k' ∧ C (.bool (!decide (a = b)))
    | .lss => k = k' ∧ C (.bool (decide (a < b)))
    | .leq => k = k' ∧ C (.bool (decide (a ≤ b)))
    | .gtr => k = k' ∧ C (.bool (decide (b < a)))
    | .geq => k = k' ∧ C (.bool (decide (b ≤ a)))
  | .string a,.string b =>
    match op with
    | .eql => C (.bool (a.toList == b.toList))
    | .neq => C (.bool (!(a.toList == b.toList)))
    | .add => a.size + b.size < 2 ^ 62 ∧ C (.string (a ++ b))
    | _ => False
  | .bool a,.bool b =>
    match kd,op with
    | .bool,.eql => C (.bool (a == b))
    | .bool,.neq => C (.bool (!(a == b)))
    | _,_ => False
  | .pointer none,.pointer none =>
    match kd,op with
    | .ptr _,.eql => C (.bool true)
    | .ptr _,.neq => C (.bool false)
    | _,_ => False
  | .slice none _ _,.slice none _ _ =>
    match kd,op with
    | .slice _,.eql => C (.bool true)
    | .slice _,.neq => C (.bool false)
    | _,_ => False
  | _,_ => False
def noGuard : Value → Bool
  | .nilIface|.agg _ => false
  | _ => true
theorem run_eqGuard_plain {op : BinOp}{t : Nat}{x y : Operand}{a b : Value} (w : World) (h : noGuard a = true) : (eqGuard op t x y a b).run P w = .ok () w := by
  cases a <;> first|(simp [noGuard] at h; done)|(unfold eqGuard; split <;> simp)
theorem run_equalIn_nilptr {t e : Nat}{b : Option Addr} (d : Nat) (w : World) (h : P.underlying t = some (.pointer e)) : (Op.equalIn (d + 1) t (.pointer none) (.pointer b)).run P w = .ok b.isNone w := by
  simp [Op.equalIn,run_underlying h]
theorem run_equalIn_ptrnil {t e : Nat}{b : Addr} (d : Nat) (w : World) (h : P.underlying t = some (.pointer e)) : (Op.equalIn (d + 1) t (.pointer (some b)) (.pointer none)).run P w = .ok false w := by
  simp [Op.equalIn,run_underlying h]
theorem run_equalIn_nilsl {t e : Nat}{a b : Nat}{x : Option Addr}{y z : Nat} (d : Nat) (w : World) (h : P.underlying t = some (.slice e)) : (Op.equalIn (d + 1) t (.slice none a b) (.slice x y z)).run P w = .ok x.isNone w := by
  simp [Op.equalIn,run_underlying h]
theorem run_equalIn_slnil {t e : Nat}{a b : Nat}{x : Addr}{y z : Nat} (d : Nat) (w : World) (h : P.underlying t = some (.slice e)) : (Op.equalIn (d + 1) t (.slice (some x) y z) (.slice none a b)).run P w = .ok false w := by
  simp [Op.equalIn,run_underlying h]
theorem run_eql_of {t : Nat}{a b : Value}{r : Bool} (w : World) (hb : binOp .eql t a b = do pure (.bool (← Op.equal t a b))) (h : (Op.equalIn (9999 + 1) t a b).run P w = .ok r w) :
    (binOp .eql t a b).run P w = .ok (.bool r) w := by
  rw [hb]; unfold Op.equal Op.maxDepth
  rw [Sem.run_bind,h]; rfl
theorem run_neq_of {t : Nat}{a b : Value}{r : Bool} (w : World) (hb : binOp .neq t a b = do pure (.bool (!(← Op.equal t a b)))) (h : (Op.equalIn (9999 + 1) t a b).run P w = .ok r w) :
    (binOp .neq t a b).run P w = .ok (.bool (!r)) w := by
  rw [hb]; unfold Op.equal Op.maxDepth
  rw [Sem.run_bind,h]; rfl
theorem run_stepBin (ht : TabOk P tab) {op : BinOp}{t : Nat}{C : Value → Prop}{a b : Value}{kd : Kd} (hkd : kd = .other ∨ ∃ i,tab t = some i ∧ i.kd = kd) (w : World) (h : stepBin op kd C a b) :
    ∃ r,C r ∧ one r = true ∧ (binOp op t a b).run P w = .ok r w ∧ noGuard a = true := by
  unfold stepBin at h
  split at h
  · rename_i k x k' y
    cases op <;> simp only [] at h
    case shl => exact ⟨_,h.2,rfl,by simp [binOp,Op.shift,show ¬ y < 0 by omega],rfl⟩
    case shr => exact ⟨_,h.2,rfl,by simp [binOp,Op.shift,show ¬ y < 0 by omega],rfl⟩
    case quo => obtain ⟨rfl,h1,h2⟩ := h; exact ⟨_,h2,rfl,by simp [binOp,Op.intDiv,h1],rfl⟩
    case rem => obtain ⟨rfl,h1,h2⟩ := h; exact ⟨_,h2,rfl,by simp [binOp,Op.intDiv,h1],rfl⟩
    case neq => obtain ⟨rfl,h2⟩ := h; exact ⟨_,h2,rfl,by simp [binOp,Op.intCmp,bne,BEq.beq],rfl⟩
    case eql => obtain ⟨rfl,h2⟩ := h; exact ⟨_,h2,rfl,by simp [binOp,Op.intCmp,BEq.beq],rfl⟩
    all_goals
      obtain ⟨rfl,h2⟩ := h
      exact ⟨_,h2,rfl,by first|(simp [binOp,Op.intArith]; done)|(simp [binOp,Op.intBits,bitI]; done)|(simp [binOp,Op.intCmp]; done),rfl⟩
  · rename_i x y
    cases op <;> simp only [] at h
    case eql => exact ⟨_,h,rfl,by simp [binOp,Op.stringOp],rfl⟩
    case neq => exact ⟨_,h,rfl,by simp [binOp,Op.stringOp],rfl⟩
    case add =>
      refine ⟨_,h.2,rfl, ?_,rfl⟩
      have h1 := h.1
      simp only [binOp,Op.stringOp]
      rw [if_neg]
      · rfl
      · have : IntKind.i64.max = 9223372036854775807 := by decide
        rw [this]; omega
    all_goals exact h.elim
  · rename_i x y
    have hu : kd = .bool → P.underlying t = some .bool := by
      intro e; rcases hkd with hk|⟨i,h1,h2⟩
      · rw [e] at hk; cases hk
      · have := (ht t i h1).under; rw [h2,e] at this; exact this
    cases kd <;> cases op <;> simp only [] at h <;> first|exact h.elim|skip
    · exact ⟨_,h,rfl,run_eql_bool w t x y (hu rfl),rfl⟩
    · exact ⟨_,h,rfl,run_neq_bool w t x y (hu rfl),rfl⟩
  · have hu : ∀ e,kd = .ptr e → P.underlying t = some (.pointer e) := by
      intro e he; rcases hkd with hk|⟨i,h1,h2⟩
      · rw [he] at hk; cases hk
      · have := (ht t i h1).under; rw [h2,he] at this; exact this
    cases kd <;> cases op <;> simp only [] at h <;> first|exact h.elim|skip
    · exact ⟨_,h,rfl,run_eql_of w rfl (run_equalIn_nilptr 9999 w (hu _ rfl)),rfl⟩
    · exact ⟨_,h,rfl,run_neq_of w rfl (run_equalIn_nilptr 9999 w (hu _ rfl)),rfl⟩
  · have hu : ∀ e,kd = .slice e → P.underlying t = some (.slice e) := by
      intro e he; rcases hkd with hk|⟨i,h1,h2⟩
      · rw [he] at hk; cases hk
      · have := (ht t i h1).under; rw [h2,he] at this; exact this
    cases kd <;> cases op <;> simp only [] at h <;> first|exact h.elim|skip
    · exact ⟨_,h,rfl,run_eql_of w rfl (run_equalIn_nilsl 9999 w (hu _ rfl)),rfl⟩
    · exact ⟨_,h,rfl,run_neq_of w rfl (run_equalIn_nilsl 9999 w (hu _ rfl)),rfl⟩
  · exact h.elim
end
def upd (φ : Nat → Phys) (n : Nat) (p : Phys) : Nat → Phys := fun m => if m = n then p else φ m
theorem upd_same (φ : Nat → Phys) (n : Nat) (p : Phys) : upd φ n p n = p := by simp [upd]
theorem upd_ne (φ : Nat → Phys) {n m : Nat} (p : Phys) (h : m ≠ n) : upd φ n p m = φ m := by simp [upd,h]
theorem SatO.step {φ φ' : Nat → Phys}{nx nx' : Nat}{w w' : World}{S S' : Nat → Nat → Prop} (hφ : ∀ n,n < nx → φ' n = φ n) (hn : nx ≤ nx') (hm : Mono w S w' S') {n : Nat} (hlt : n < nx)
    (hb : (φ n).nil = false → w'.heap[(φ n).blk]? = w.heap[(φ n).blk]?) {o : Obj} (h : SatO φ nx w S n o) : SatO φ' nx' w' S' n o := by
  cases o with
  | obj cs =>
    obtain ⟨h0,arr,ty,h1,h2,h3⟩ := h
    simp only [SatO,hφ n hlt]
    refine ⟨h0,arr,ty,by rw [hb h0]; exact h1,h2,fun i c hc => ?_⟩
    obtain ⟨u,a,b,d⟩ := h3 i c hc
    exact ⟨u,a,b,d.step hφ hn hm⟩
  | buf wr sz l =>
    obtain ⟨h1,h2,h3⟩ := h
    simp only [SatO,hφ n hlt]
    refine ⟨h1,h2, ?_⟩
    rcases h3 with h3|⟨h0,arr,ty,k1,k2,k3,k4,k5⟩
    · exact .inl h3
    · refine .inr ⟨h0,arr,ty,by rw [hb h0]; exact k1,k2,k3,k4,fun i x j c e1 e2 => ?_⟩
      obtain ⟨u,a,b,d⟩ := k5 i x j c e1 e2
      exact ⟨u,a,b,d.step hm⟩
  | mp r es =>
    obtain ⟨h0,h1,ents,clock,h2,h3⟩ := h
    simp only [SatO,hφ n hlt]
    exact ⟨h0,h1,ents,clock,by rw [← h1,hb h0,h1]; exact h2,h3⟩
theorem SatO.lt {φ : Nat → Phys}{nx : Nat}{w : World}{S : Nat → Nat → Prop}{n : Nat}{o : Obj} (h : SatO φ nx w S n o) (hn : (φ n).nil = false) : (φ n).blk < w.heap.size := by
  have aux : ∀ {b : Nat}{x : Go.Obj},w.heap[b]? = some x → b < w.heap.size := by
    intro b x hx
    rcases Nat.lt_or_ge b w.heap.size with h|h
    · exact h
    · rw [Array.getElem?_eq_none h] at hx; cases hx
  cases o with
  | obj cs => obtain ⟨_,arr,ty,h1,_⟩ := h; exact aux h1
  | buf wr sz l =>
    obtain ⟨_,_,h3⟩ := h
    rcases h3 with ⟨h3,_⟩|⟨_,arr,ty,h1,_⟩
    · rw [hn] at h3; cases h3
    · exact aux h1
  | mp r es => obtain ⟨_,h1,ents,clock,h2,_⟩ := h; rw [h1]; exact aux h2
section
variable {c : Ctx}{nx : Nat}{env : Env}{H : Heap}{φ : Nat → Phys}{tmps : Array Value}{w w' : World}
theorem Own.cons {φ' : Nat → Phys}{n : Nat}{o : Obj}{b off : Nat} (h : Own φ' ((n,o) :: H) b off) :
    ((φ' n).nil = false ∧ (φ' n).blk = b ∧ lim (φ' n) o ≤ off) ∨ ∃ m o',m ≠ n ∧ look H m = some o' ∧ (φ' m).nil = false ∧ (φ' m).blk = b ∧ lim (φ' m) o' ≤ off := by
  obtain ⟨m,o',h1,h2,h3,h4⟩ := h
  by_cases e : n = m
  · subst e; rw [look_cons_same] at h1; cases h1; exact .inl ⟨h2,h3,h4⟩
  · rw [look_cons_ne _ _ e] at h1; exact .inr ⟨m,o',fun h => e h.symm,h1,h2,h3,h4⟩
theorem StΦ.push (h : StΦ c nx env H φ tmps w) {o : Obj}{p : Phys}{x : Go.Obj} (hh : w'.heap = w.heap.push x) (ho : w'.os = w.os) (ht : w'.tape = w.tape) (hu : w'.output = w.output)
    (hb : p.blk = w.heap.size)
    (hs : Mono w (SS c.So φ H) w' (SS c.So (upd φ nx p) ((nx,o) :: H)) → SatO (upd φ nx p) (nx + 1) w' (SS c.So (upd φ nx p) ((nx,o) :: H)) nx o) : StΦ c (nx + 1) env ((nx,o) :: H) (upd φ nx p) tmps w' := by
  have hSo : ∀ off,¬ c.So w.heap.size off := fun off hs => by have := c.low _ _ hs; have := h.ext.size; omega
  have hφ : ∀ n,n < nx → upd φ nx p n = φ n := fun n hn => upd_ne _ _ (by omega)
  have hold : ∀ b,b < w.heap.size → w'.heap[b]? = w.heap[b]? := fun b hb => by rw [hh,Array.getElem?_push]; rw [if_neg (by omega)]
  have hext : Ext w w' (Own φ H) (Own (upd φ nx p) ((nx,o) :: H)) := by
    refine ⟨ho,ht,hu,by rw [hh]; simp,fun b hb _ => hold b hb,fun b off hb _ => World.cell?_of_block (a := ⟨b,off,none⟩) (hold b hb), ?_⟩
    intro b off hlt hO
    rcases hO.cons with ⟨_,h2,_⟩|⟨m,o',hm,k1,k2,k3,k4⟩
    · rw [upd_same,hb] at h2; omega
    · have := (h.ok.obj m o' k1).1
      rw [hφ m this] at k2 k3 k4
      exact ⟨m,o',k1,k2,k3,k4⟩
  have hm : Mono w (SS c.So φ H) w' (SS c.So (upd φ nx p) ((nx,o) :: H)) := hext.mono
  refine h.next hφ (Nat.le_succ _) ?_ hext
  refine ⟨fun n o' hk => ?_,fun n m o1 o2 h1 h2 hne n1 n2 => ?_,fun n o' hk hnil off => ?_⟩
  · by_cases e : nx = n
    · subst e; rw [look_cons_same] at hk; cases hk; exact ⟨Nat.lt_succ_self _,hs hm⟩
    · rw [look_cons_ne _ _ e] at hk
      obtain ⟨k1,k2⟩ := h.ok.obj n o' hk
      exact ⟨by omega,k2.step hφ (Nat.le_succ _) hm k1 fun hf => hold _ (k2.lt hf)⟩
  · by_cases e1 : nx = n
    · by_cases e2 : nx = m
      · omega
      · rw [look_cons_ne _ _ e2] at h2
        obtain ⟨k1,k2⟩ := h.ok.obj m o2 h2
        rw [hφ m k1] at n2 ⊢
        rw [← e1,upd_same,hb]
        have := k2.lt n2
        omega
    · rw [look_cons_ne _ _ e1] at h1
      obtain ⟨k1,k2⟩ := h.ok.obj n o1 h1
      rw [hφ n k1] at n1 ⊢
      by_cases e2 : nx = m
      · rw [← e2,upd_same,hb]
        have := k2.lt n1
        omega
      · rw [look_cons_ne _ _ e2] at h2
        obtain ⟨j1,j2⟩ := h.ok.obj m o2 h2
        rw [hφ m j1] at n2 ⊢
        exact h.ok.dis n m o1 o2 h1 h2 hne n1 n2
  · by_cases e : nx = n
    · rw [← e,upd_same,hb]; exact hSo off
    · rw [look_cons_ne _ _ e] at hk
      obtain ⟨k1,k2⟩ := h.ok.obj n o' hk
      rw [hφ n k1] at hnil ⊢
      exact h.ok.out n o' hk hnil off
theorem StΦ.nilbuf (h : StΦ c nx env H φ tmps w) (wr : Bool) (sz : Nat) : StΦ c (nx + 1) env ((nx,.buf wr sz []) :: H) (upd φ nx ⟨0,0,0,0,sz,true⟩) tmps w := by
  have hφ : ∀ n,n < nx → upd φ nx ⟨0,0,0,0,sz,true⟩ n = φ n := fun n hn => upd_ne _ _ (by omega)
  have hext : Ext w w (Own φ H) (Own (upd φ nx ⟨0,0,0,0,sz,true⟩) ((nx,.buf wr sz []) :: H)) := by
    refine ⟨rfl,rfl,rfl,Nat.le_refl _,fun b hb _ => rfl,fun b off hb _ => rfl, ?_⟩
    intro b off hlt hO
    rcases hO.cons with ⟨h1,_,_⟩|⟨m,o',hm,k1,k2,k3,k4⟩
    · rw [upd_same] at h1; cases h1
    · have := (h.ok.obj m o' k1).1
      rw [hφ m this] at k2 k3 k4
      exact ⟨m,o',k1,k2,k3,k4⟩
  refine h.next hφ (Nat.le_succ _) ?_ hext
  refine ⟨fun n o' hk => ?_,fun n m o1 o2 h1 h2 hne n1 n2 => ?_,fun n o' hk hnil off => ?_⟩
  · by_cases e : nx = n
    · subst e; rw [look_cons_same] at hk; cases hk; exact ⟨Nat.lt_succ_self _,by simp [SatO,upd_same]⟩
    · rw [look_cons_ne _ _ e] at hk
      obtain ⟨k1,k2⟩ := h.ok.obj n o' hk
      exact ⟨by omega,k2.step hφ (Nat.le_succ _) hext.mono k1 fun hf => rfl⟩
  · by_cases e1 : nx = n
    · rw [← e1,upd_same] at n1; cases n1
    · by_cases e2 : nx = m
      · rw [← e2,upd_same] at n2; cases n2
      · rw [look_cons_ne _ _ e1] at h1
        rw [look_cons_ne _ _ e2] at h2
        rw [hφ n (h.ok.obj n o1 h1).1] at n1 ⊢
        rw [hφ m (h.ok.obj m o2 h2).1] at n2 ⊢
        exact h.ok.dis n m o1 o2 h1 h2 hne n1 n2
  · by_cases e : nx = n
    · rw [← e,upd_same] at hnil; cases hnil
    · rw [look_cons_ne _ _ e] at hk
      rw [hφ n (h.ok.obj n o' hk).1] at hnil ⊢
      exact h.ok.out n o' hk hnil off
theorem StΦ.sub (h : StΦ c nx env H φ tmps w) {H' : Heap} (hl : ∀ m o,look H' m = some o → look H m = some o) : StΦ c nx env H' φ tmps w := by
  have hext : Ext w w (Own φ H) (Own φ H') := by
    refine ⟨rfl,rfl,rfl,Nat.le_refl _,fun b hb _ => rfl,fun b off hb _ => rfl, ?_⟩
    rintro b off hlt ⟨m,o,h1,h2⟩
    exact ⟨m,o,hl m o h1,h2⟩
  refine h.next (fun _ _ => rfl) (Nat.le_refl _) ?_ hext
  refine ⟨fun m o hm => ?_,fun a b o1 o2 h1 h2 => h.ok.dis a b o1 o2 (hl _ _ h1) (hl _ _ h2),fun m o hm => h.ok.out m o (hl _ _ hm)⟩
  obtain ⟨k1,k2⟩ := h.ok.obj m o (hl _ _ hm)
  exact ⟨k1,k2.step (fun _ _ => rfl) (Nat.le_refl _) hext.mono k1 fun _ => rfl⟩
theorem StΦ.let_go (h : StΦ c nx env H φ tmps w) (n : Nat) : StΦ c nx env (drop H n) φ tmps w := by
  refine h.sub fun m o hm => ?_
  by_cases e : n = m
  · subst e; rw [look_drop_same] at hm; cases hm
  · rwa [look_drop_ne _ e] at hm
theorem StΦ.write (h : StΦ c nx env H φ tmps w) {n m nx' : Nat}{o o' : Obj}{p : Phys} (hn : look H n = some o) (hnil : (φ n).nil = false) (hm : (m = n ∧ p = φ n ∧ nx' = nx) ∨ (m = nx ∧ nx' = nx + 1))
    (hpn : p.nil = false) (hpb : p.blk = (φ n).blk) (hl : lim (φ n) o ≤ lim p o')
    (ho : w'.os = w.os) (ht : w'.tape = w.tape) (hu : w'.output = w.output) (hz : w'.heap.size = w.heap.size) (hold : ∀ b,b ≠ (φ n).blk → w'.heap[b]? = w.heap[b]?)
    (hcell : ∀ off,off < lim (φ n) o → w'.cell? ⟨(φ n).blk,off,none⟩ = w.cell? ⟨(φ n).blk,off,none⟩)
    (hs : Mono w (SS c.So φ H) w' (SS c.So (upd φ m p) ((m,o') :: drop H n)) → SatO (upd φ m p) nx' w' (SS c.So (upd φ m p) ((m,o') :: drop H n)) m o') :
    StΦ c nx' env ((m,o') :: drop H n) (upd φ m p) tmps w' := by
  have hnx := (h.ok.obj n o hn).1
  have hφ : ∀ k,k < nx → upd φ m p k = φ k := by
    intro k hk
    rcases hm with ⟨rfl,rfl,_⟩|⟨rfl,_⟩
    · by_cases e : k = m
      · subst e; rw [upd_same]
      · rw [upd_ne _ _ e]
    · rw [upd_ne _ _ (by omega)]
  have hle : nx ≤ nx' := by rcases hm with ⟨_,_,rfl⟩|⟨_,rfl⟩ <;> omega
  have hmn : ∀ k o1,k ≠ m → look (drop H n) k = some o1 → k ≠ n ∧ look H k = some o1 ∧ k < nx := by
    intro k o1 hk h1
    by_cases e : n = k
    · subst e; rw [look_drop_same] at h1; cases h1
    · rw [look_drop_ne _ e] at h1; exact ⟨fun h => e h.symm,h1,(h.ok.obj k o1 h1).1⟩
  have hext : Ext w w' (Own φ H) (Own (upd φ m p) ((m,o') :: drop H n)) := by
    refine ⟨ho,ht,hu,by omega,fun b hb hO => hold b fun e => hO (lim (φ n) o) ⟨n,o,hn,hnil,e.symm,Nat.le_refl _⟩,fun b off hb hO => ?_, ?_⟩
    · by_cases e : b = (φ n).blk
      · subst e; exact hcell off (Nat.lt_of_not_le fun hle => hO ⟨n,o,hn,hnil,rfl,hle⟩)
      · exact World.cell?_of_block (a := ⟨b,off,none⟩) (hold b e)
    · intro b off hlt hO
      rcases hO.cons with ⟨_,h2,h3⟩|⟨k,o1,hk,k1,k2,k3,k4⟩
      · rw [upd_same] at h2 h3; exact ⟨n,o,hn,hnil,by rw [← h2,hpb],Nat.le_trans hl h3⟩
      · obtain ⟨a1,a2,a3⟩ := hmn k o1 hk k1
        rw [hφ k a3] at k2 k3 k4
        exact ⟨k,o1,a2,k2,k3,k4⟩
  refine h.next hφ hle ?_ hext
  refine ⟨fun k o1 hk => ?_,fun a b o1 o2 h1 h2 hne n1 n2 => ?_,fun k o1 hk hkn off => ?_⟩
  · by_cases e : m = k
    · subst e; rw [look_cons_same] at hk; cases hk
      exact ⟨by rcases hm with ⟨rfl,_,rfl⟩|⟨rfl,rfl⟩ <;> omega,hs hext.mono⟩
    · rw [look_cons_ne _ _ e] at hk
      obtain ⟨a1,a2,a3⟩ := hmn k o1 (fun h => e h.symm) hk
      have ks := (h.ok.obj k o1 a2).2
      exact ⟨by omega,ks.step hφ hle hext.mono a3 fun hf => hold _ (h.ok.dis k n o1 o a2 hn a1 hf hnil)⟩
  · by_cases e1 : m = a
    · by_cases e2 : m = b
      · omega
      · rw [look_cons_ne _ _ e2] at h2
        obtain ⟨a1,a2,a3⟩ := hmn b o2 (fun h => e2 h.symm) h2
        rw [hφ b a3] at n2 ⊢
        rw [← e1,upd_same,hpb]
        exact h.ok.dis n b o o2 hn a2 (fun h => a1 h.symm) hnil n2
    · rw [look_cons_ne _ _ e1] at h1
      obtain ⟨a1,a2,a3⟩ := hmn a o1 (fun h => e1 h.symm) h1
      rw [hφ a a3] at n1 ⊢
      by_cases e2 : m = b
      · rw [← e2,upd_same,hpb]
        exact h.ok.dis a n o1 o a2 hn a1 n1 hnil
      · rw [look_cons_ne _ _ e2] at h2
        obtain ⟨b1,b2,b3⟩ := hmn b o2 (fun h => e2 h.symm) h2
        rw [hφ b b3] at n2 ⊢
        exact h.ok.dis a b o1 o2 a2 b2 hne n1 n2
  · by_cases e : m = k
    · rw [← e,upd_same,hpb]; exact h.ok.out n o hn hnil off
    · rw [look_cons_ne _ _ e] at hk
      obtain ⟨a1,a2,a3⟩ := hmn k o1 (fun h => e h.symm) hk
      rw [hφ k a3] at hkn ⊢
      exact h.ok.out k o1 a2 hkn off
end
set_option linter.unusedVariables false
set_option linter.unusedSimpArgs false
def PV.storable : PV → Bool
  | .agg _ => true
  | .f (.agg _) => true
  | x => x.one
theorem RepF.one {w : World}{S : Nat → Nat → Prop}{x : FV}{v : Value} (h : RepF w S x v) (h1 : PV.one (.f x) = true) : Pv.one v = true := by
  cases h with
  | v x => exact h1
  | agg => simp [PV.one] at h1
  | slnil => rfl
  | slemp => rfl
  | sl => rfl
  | ro => rfl
theorem Rep.one {φ : Nat → Phys}{nx : Nat}{w : World}{S : Nat → Nat → Prop}{x : PV}{v : Value} (h : Rep φ nx w S x v) (h1 : x.one = true) : Pv.one v = true := by
  cases h with
  | f h => exact h.one h1
  | ptr => rfl
  | refnil => rfl
  | ref => rfl
  | ep => rfl
  | agg => simp [PV.one] at h1
  | tup => simp [PV.one] at h1
  | clo => rfl
theorem cells_of_one {v : Value} (h : Pv.one v = true) : v.cells = #[v] := by cases v <;> simp_all [Value.cells,Value.oneCell']
theorem Rep.cells {φ : Nat → Phys}{nx : Nat}{w : World}{S : Nat → Nat → Prop}{x : PV}{v : Value} (h : Rep φ nx w S x v) (h1 : x.storable = true) :
    v.cells.size = x.cells.length ∧ ∀ (i : Nat) c,x.cells[i]? = some c → ∃ u,v.cells[i]? = some u ∧ Pv.one u = true ∧ Rep φ nx w S c u := by
  have plain : x.one = true → x.cells = [x] → v.cells.size = x.cells.length ∧ ∀ (i : Nat) c,x.cells[i]? = some c → ∃ u,v.cells[i]? = some u ∧ Pv.one u = true ∧ Rep φ nx w S c u := by
    intro ho hc
    have hv := h.one ho
    rw [cells_of_one hv,hc]
    refine ⟨rfl,fun i c hi => ?_⟩
    cases i with
    | zero => simp at hi; subst hi; exact ⟨v,rfl,hv,h⟩
    | succ i => simp at hi
  cases h with
  | agg cs vs hs ho hr =>
    refine ⟨hs,fun i c hi => ?_⟩
    have hlt : i < vs.size := by rw [hs]; exact (List.getElem?_eq_some_iff.1 hi).1
    exact ⟨vs[i],by simp [Value.cells,hlt],ho i _ (by simp [hlt]),hr i c _ hi (by simp [hlt])⟩
  | @f y _ hf =>
    cases hf with
    | agg cs vs hs ho hr =>
      refine ⟨by simp [Value.cells,PV.cells,hs],fun i c hi => ?_⟩
      simp only [PV.cells,List.getElem?_map] at hi
      cases hc : cs[i]? with
      | none => rw [hc] at hi; cases hi
      | some d =>
        rw [hc] at hi; simp at hi; subst hi
        have hlt : i < vs.size := by rw [hs]; exact (List.getElem?_eq_some_iff.1 hc).1
        exact ⟨vs[i],by simp [Value.cells,hlt],ho i _ (by simp [hlt]),.f (hr i d _ hc (by simp [hlt]))⟩
    | v x => exact plain h1 rfl
    | slnil => exact plain h1 rfl
    | slemp => exact plain h1 rfl
    | sl => exact plain h1 rfl
    | ro => exact plain h1 rfl
  | ptr => exact plain h1 rfl
  | refnil => exact plain h1 rfl
  | ref => exact plain h1 rfl
  | ep => exact plain h1 rfl
  | tup => simp [PV.storable,PV.one] at h1
  | clo => exact plain h1 rfl
def allF : List PV → Option (List FV)
  | [] => some []
  | .f x :: t => (allF t).map (x :: ·)
  | _ :: _ => none
def mkAgg (cs : List PV) : PV := match allF cs with|some l => .f (.agg l)|none => .agg cs
theorem allF_map {cs : List PV} : ∀ {l : List FV},allF cs = some l → cs = l.map .f := by
  induction cs with
  | nil => intro l h; simp [allF] at h; subst h; rfl
  | cons x t ih =>
    intro l h
    cases x with
    | f x =>
      simp only [allF,Option.map_eq_some_iff] at h
      obtain ⟨m,h1,rfl⟩ := h
      rw [ih h1]; rfl
    | _ => simp [allF] at h
theorem Rep.mkAgg {φ : Nat → Phys}{nx : Nat}{w : World}{S : Nat → Nat → Prop}{cs : List PV}{vs : Array Value} (hs : vs.size = cs.length) (ho : ∀ (i : Nat) u,vs[i]? = some u → Pv.one u = true)
    (hr : ∀ (i : Nat) c u,cs[i]? = some c → vs[i]? = some u → Rep φ nx w S c u) : Rep φ nx w S (Pv.mkAgg cs) (.agg vs) := by
  unfold Pv.mkAgg
  split
  · rename_i l hl
    have e := allF_map hl
    subst e
    refine .f (.agg l vs (by simpa using hs) ho fun i c u h1 h2 => ?_)
    have := hr i (.f c) u (by simp [h1]) h2
    cases this with|f h => exact h
  · exact .agg cs vs hs ho hr
section
variable {P : Program}{tab : Tab}{c : Ctx}{nx : Nat}{env : Env}{H : Heap}{K : PV → Nat → Heap → Prop}{o : Oper}
theorem run_loads {P : Program} (w : World) (b off n : Nat) (vs : List Value) (hn : vs.length = n) (h : ∀ j v,vs[j]? = some v → w.cell? ⟨b,off + j,none⟩ = some v) :
    (loadCells ⟨b,off,none⟩ n).run P w = .ok vs.toArray w := by
  subst hn
  refine run_loadCells_list w ⟨b,off,none⟩ vs fun j v hv => ?_
  have : (⟨b,off,none⟩ : Addr).add j = ⟨b,off + j,none⟩ := by unfold Addr.add; split <;> simp_all
  rw [this]; exact h j v hv
theorem add_plain (b off j : Nat) : (⟨b,off,none⟩ : Addr).add j = ⟨b,off + j,none⟩ := by unfold Addr.add; split <;> simp_all
theorem run_isAgg (ht : TabOk P tab) {t : Nat}{i : TI} (h : tab t = some i) (w : World) : (isAgg t).run P w = .ok i.kd.agg w := by
  have hu := (ht t i h).under
  cases hk : i.kd <;> rw [hk] at hu <;> simp only [Under] at hu
  case struct fs => obtain ⟨F,hu,_⟩ := hu; simp [isAgg,run_underlying hu,Kd.agg]
  case func => obtain ⟨_,_,_,hu⟩ := hu; simp [isAgg,run_underlying hu,Kd.agg]
  all_goals simp [isAgg,run_underlying hu,Kd.agg]
theorem run_size (ht : TabOk P tab) {t : Nat}{i : TI} (h : tab t = some i) (w : World) : (sizeOf t).run P w = .ok i.size w := by
  obtain ⟨ti,z,h1,h2,_⟩ := (ht t i h).info
  simp [sizeOf,typeInfo,h1,h2]
theorem run_loadVar (ht : TabOk P tab) {t : Nat}{i : TI} (h : tab t = some i) (w : World) (b off : Nat) (vs : List Value) (hn : vs.length = i.size)
    (hc : ∀ (j : Nat) v,vs[j]? = some v → w.cell? ⟨b,off + j,none⟩ = some v) (h1 : i.kd.agg = false → i.size = 1) :
    (loadVar t ⟨b,off,none⟩).run P w = .ok (if i.kd.agg then .agg vs.toArray else vs.headD undef) w := by
  unfold loadVar
  rw [Sem.run_bind,run_isAgg ht h,Result.andThen_ok]
  cases ha : i.kd.agg with
  | true =>
    simp only [if_true,Sem.run_bind,run_size ht h,Result.andThen_ok,run_loads w b off i.size vs hn hc]
    rfl
  | false =>
    have := h1 ha
    rw [this] at hn
    match vs,hn with
    | [v],_ =>
      have hv := hc 0 v rfl
      simp only [Nat.add_zero] at hv
      simp [run_load,hv]
theorem exec_load {P : Program}{o : Oper}{t : Nat}{x : Operand}{tmps : Array Value}{w : World}{a : Addr}{r : Value} (ho : o.op = .load t x) (hv : (act tmps).eval x = .pointer (some a))
    (hrun : (loadVar t a).run P w = .ok r w) : (execOp (act tmps).eval o).run P w = .ok (.value r) w := by
  simp only [execOp,ho,Instr.loadAt,Instr.sureAddr,hv]
  simp only [Sem.run_bind,Sem.run_pure,Result.andThen_ok,hrun]
def stepBox (env : Env) (H : Heap) (nx : Nat) (K : PV → Nat → Heap → Prop) (x : Operand) : Prop :=
  ∃ pv,ev env x = some pv ∧ pv.storable = true ∧ K (.ptr nx 0) (nx + 1) ((nx,.obj pv.cells) :: H)
theorem StΦ.newObj {φ : Nat → Phys}{tmps : Array Value}{w : World} (hs : StΦ c nx env H φ tmps w) {x : PV}{v : Value} (hr : Rep φ nx w (SS c.So φ H) x v) (h1 : x.storable = true) (t : Nat) :
    StΦ c (nx + 1) env ((nx,.obj x.cells) :: H) (upd φ nx ⟨w.heap.size,0,0,0,0,false⟩) tmps (w.alloc (.cells v.cells t)) := by
  refine hs.push rfl rfl rfl rfl rfl fun hm => ?_
  obtain ⟨k1,k2⟩ := hr.cells h1
  simp only [SatO,upd_same]
  refine ⟨trivial,v.cells,t,heap_alloc_new w _,k1,fun i d hd => ?_⟩
  obtain ⟨u,a1,a2,a3⟩ := k2 i d hd
  exact ⟨u,a1,a2,a3.step (fun n hn => upd_ne _ _ (by omega)) (Nat.le_succ _) hm⟩
theorem does_box {e : Nat}{x : Operand} (ho : o.op = .box e x) (h : stepBox env H nx K x) : Does P o c nx env H K :=
  Does.value fun φ tmps w hs => by
    obtain ⟨pv,h1,h2,h3⟩ := h
    have hr := ev_rep hs h1
    refine ⟨_,_,_,_,_,_, ?_,h3,hs.newObj hr h2 e,.ptr (Nat.lt_succ_self _)⟩
    rw [upd_same]
    simp [execOp,ho,Instr.box,newVar,newRow]
def stepAlloc (tab : Tab) (H : Heap) (nx : Nat) (K : PV → Nat → Heap → Prop) (e : Nat) : Prop :=
  ∃ i,tab e = some i ∧ K (.ptr nx 0) (nx + 1) ((nx,.obj (i.zero.map fun v => .f (.v v))) :: H)
theorem zero_cells (ht : TabOk P tab) {t : Nat}{i : TI} (h : tab t = some i) : ∃ z,(∀ w,(zeroValue t).run P w = .ok z w) ∧ z.cells = i.zero.toArray := by
  obtain ⟨ti,z,h1,h2,h3,h4,h5,h6⟩ := (ht t i h).info
  exact ⟨z,fun w => by simp [zeroValue,typeInfo,h1,h4],h5⟩
theorem does_alloc (ht : TabOk P tab) {e : Nat} (ho : o.op = .alloc e) (h : stepAlloc tab H nx K e) : Does P o c nx env H K :=
  Does.value fun φ tmps w hs => by
    obtain ⟨i,h1,h2⟩ := h
    obtain ⟨z,hz,hc⟩ := zero_cells ht h1
    have hone := (ht e i h1).ones
    have := hs.newObj (x := .agg (i.zero.map fun v => .f (.v v))) (v := .agg i.zero.toArray)
      (.agg _ _ (by simp) (fun j u hu => hone u (by simp at hu; exact List.mem_of_getElem? hu)) (fun j d u h1 h2 => by
        simp only [List.getElem?_map,List.getElem?_toArray] at h1 h2
        rw [h2] at h1; simp at h1; subst h1; exact .f (.v u))) rfl e
    refine ⟨_,_,_,_,_,_, ?_,h2,this,.ptr (Nat.lt_succ_self _)⟩
    rw [upd_same]
    simp [execOp,ho,Instr.alloc,newVar,newRow,hz,hc]
    rfl
def stepLoad (tab : Tab) (env : Env) (H : Heap) (nx : Nat) (K : PV → Nat → Heap → Prop) (t : Nat) (x : Operand) : Prop :=
  ∃ i,tab t = some i ∧ (i.kd.agg = false → i.size = 1) ∧
    ((∃ n off cs,ev env x = some (.ptr n off) ∧ look H n = some (.obj cs) ∧ off + i.size ≤ cs.length ∧
        K (if i.kd.agg then mkAgg ((cs.drop off).take i.size) else (cs.drop off).headD (.f (.v undef))) nx H) ∨
     (∃ y,ev env x = some (.f (.ro y)) ∧ y.cells.length = i.size ∧ (i.kd.agg = true → y = .agg y.cells) ∧ (i.kd.agg = false → y.cells = [y]) ∧ K (.f y) nx H) ∨
     (∃ n j off wr sz l y,ev env x = some (.ep n j off) ∧ look H n = some (.buf wr sz l) ∧ l[j]? = some y ∧ off + i.size ≤ y.cells.length ∧
        K (.f (if i.kd.agg then .agg ((y.cells.drop off).take i.size) else (y.cells.drop off).headD (.v undef))) nx H))
theorem cell_heap {w : World}{b : Nat}{arr : Array Value}{ty : Nat}{fr : Nat × Nat} (h : w.heap[b]? = some (.cells arr ty fr)) (off : Nat) : w.cell? ⟨b,off,none⟩ = arr[off]? := by
  simp [World.cell?,h]
theorem list_drop_head {α : Type}{l : List α}{n : Nat}{d x : α} (h : l[n]? = some x) : (l.drop n).headD d = x := by
  rw [List.headD_eq_head?_getD,List.head?_drop,h]; rfl
theorem does_load (ht : TabOk P tab) {t : Nat}{x : Operand} (ho : o.op = .load t x) (h : stepLoad tab env H nx K t x) : Does P o c nx env H K :=
  Does.pure fun φ tmps w hs => by
    obtain ⟨i,h1,hsz,h⟩ := h
    rcases h with ⟨n,off,cs,k1,k2,k3,k4⟩|⟨y,k1,k2,k3,k4,k5⟩|⟨n,j,off,wr,sz,l,y,k1,k2,k3,k4,k5⟩
    · have hr := ev_rep hs k1
      obtain ⟨hnx,hsat⟩ := hs.ok.obj n _ k2
      obtain ⟨hnil,arr,ty,a1,a2,a3⟩ := hsat
      generalize hv : (act tmps).eval x = v at hr
      cases hr
      have hrun := run_loadVar ht h1 w (φ n).blk off ((arr.toList.drop off).take i.size) (by simp; omega) (fun j v hj => by
        rw [cell_heap a1]
        simp only [List.getElem?_take,List.getElem?_drop,Array.getElem?_toList] at hj
        split at hj
        · exact hj
        · cases hj) hsz
      have hex := exec_load ho hv hrun
      refine ⟨_,_,hex,k4, ?_⟩
      · have hget : ∀ j,off + j < cs.length → ∃ d u,cs[off + j]? = some d ∧ arr[off + j]? = some u ∧ Pv.one u = true ∧ Rep φ nx w (SS c.So φ H) d u := by
          intro j hj
          obtain ⟨u,b1,b2,b3⟩ := a3 (off + j) cs[off + j] (by simp [hj])
          exact ⟨_,u,by simp [hj],b1,b2,b3⟩
        cases hagg : i.kd.agg with
        | true =>
          simp only [if_true]
          refine Rep.mkAgg (by simp; omega) (fun j u hu => ?_) (fun j d u hd hu => ?_)
          · simp only [List.getElem?_toArray,List.getElem?_take,List.getElem?_drop,Array.getElem?_toList] at hu
            split at hu
            · have hj : off + j < cs.length := by omega
              obtain ⟨d',u',b1,b2,b3,b4⟩ := hget j hj
              rw [b2] at hu; cases hu; exact b3
            · cases hu
          · simp only [List.getElem?_toArray,List.getElem?_take,List.getElem?_drop,Array.getElem?_toList] at hu hd
            split at hu
            · rename_i hlt
              rw [if_pos hlt] at hd
              have hj : off + j < cs.length := by omega
              obtain ⟨d',u',b1,b2,b3,b4⟩ := hget j hj
              rw [b1] at hd; rw [b2] at hu; cases hd; cases hu; exact b4
            · cases hu
        | false =>
          have := hsz hagg
          obtain ⟨d',u',b1,b2,b3,b4⟩ := hget 0 (by omega)
          simp only [Nat.add_zero] at b1 b2
          simp only [Bool.false_eq_true,if_false,this]
          rw [list_drop_head b1]
          have : ((arr.toList.drop off).take 1).headD undef = u' := by
            rw [List.headD_eq_head?_getD,List.head?_take,List.head?_drop]
            simp [b2]
          rw [this]; exact b4
    · have hr := ev_rep hs k1
      generalize hv : (act tmps).eval x = v at hr
      cases hr with
      | f hr =>
      cases hr with
      | ro _ b off val g1 g2 =>
      have hrun := run_loadVar ht h1 w b off ((List.range i.size).map val) (by simp) (fun j v hj => by
        simp only [List.getElem?_map,List.getElem?_range] at hj
        have hlt : j < i.size := by
          rcases Nat.lt_or_ge j i.size with h|h
          · exact h
          · simp [List.getElem?_eq_none (show (List.range i.size).length ≤ j by simpa using h)] at hj
        simp [hlt] at hj
        subst hj
        exact (g1 j y.cells[j] (by simp [k2,hlt])).1) hsz
      have hex := exec_load ho hv hrun
      refine ⟨_,_,hex,k5, ?_⟩
      · cases hagg : i.kd.agg with
        | true =>
          simp only [if_true]
          rw [k3 hagg]
          refine .f (.agg _ _ (by simp [k2]) (fun j u hu => ?_) (fun j d u hd hu => ?_))
          · simp only [List.getElem?_toArray,List.getElem?_map] at hu
            have hlt : j < i.size := by
              rcases Nat.lt_or_ge j i.size with h|h
              · exact h
              · simp [List.getElem?_eq_none (show (List.range i.size).length ≤ j by simpa using h)] at hu
            simp [hlt] at hu
            subst hu
            exact (g1 j y.cells[j] (by simp [k2,hlt])).2.2
          · have hlt : j < i.size := by rw [← k2]; exact (List.getElem?_eq_some_iff.1 hd).1
            simp [hlt] at hu
            subst hu
            exact g2 j d hd
        | false =>
          have hz := hsz hagg
          have hc := k4 hagg
          simp only [Bool.false_eq_true,if_false,hz]
          have := g2 0 y (by rw [hc]; rfl)
          simpa using Rep.f this
    · have hr := ev_rep hs k1
      obtain ⟨hnx,hsat⟩ := hs.ok.obj n _ k2
      generalize hv : (act tmps).eval x = v at hr
      cases hr with
      | ep _ hnil hlt =>
      obtain ⟨e1,e2,e3⟩ := hsat
      rcases e3 with ⟨e3,_⟩|⟨_,arr,ty,a1,a2,a3,a4,a5⟩
      · rw [hnil] at e3; cases e3
      · have hcl := a4 j y k3
        have hget : ∀ q,off + q < y.cells.length → ∃ d u,y.cells[off + q]? = some d ∧ arr[(φ n).base + j * sz + (off + q)]? = some u ∧ Pv.one u = true ∧ RepF w (SS c.So φ H) d u := by
          intro q hq
          obtain ⟨u,b1,b2,b3⟩ := a5 j y (off + q) y.cells[off + q] k3 (by simp [hq])
          exact ⟨_,u,by simp [hq],b1,b2,b3⟩
        have hrun := run_loadVar ht h1 w (φ n).blk ((φ n).base + j * sz + off) ((arr.toList.drop ((φ n).base + j * sz + off)).take i.size) (by
            simp
            have hl : j < l.length := (List.getElem?_eq_some_iff.1 k3).1
            have : j * sz + sz ≤ (φ n).cap * sz := by
              have := Nat.mul_le_mul_right sz (show j + 1 ≤ (φ n).cap by omega)
              rw [Nat.add_mul] at this; omega
            omega) (fun q v hq => by
          rw [cell_heap a1]
          simp only [List.getElem?_take,List.getElem?_drop,Array.getElem?_toList] at hq
          split at hq
          · exact hq
          · cases hq) hsz
        rw [e2] at hv
        have hex := exec_load ho hv hrun
        refine ⟨_,_,hex,k5, ?_⟩
        · cases hagg : i.kd.agg with
          | true =>
            simp only [if_true]
            have hlen : arr.size ≥ (φ n).base + j * sz + off + i.size := by
              have hl : j < l.length := (List.getElem?_eq_some_iff.1 k3).1
              have : j * sz + sz ≤ (φ n).cap * sz := by
                have := Nat.mul_le_mul_right sz (show j + 1 ≤ (φ n).cap by omega)
                rw [Nat.add_mul] at this; omega
              omega
            refine .f (.agg _ _ (by simp; omega) (fun q u hu => ?_) (fun q d u hd hu => ?_))
            · simp only [List.getElem?_toArray,List.getElem?_take,List.getElem?_drop,Array.getElem?_toList] at hu
              split at hu
              · obtain ⟨d',u',b1,b2,b3,b4⟩ := hget q (by omega)
                rw [show (φ n).base + j * sz + off + q = (φ n).base + j * sz + (off + q) by omega,b2] at hu; cases hu; exact b3
              · cases hu
            · simp only [List.getElem?_toArray,List.getElem?_take,List.getElem?_drop,Array.getElem?_toList] at hu hd
              split at hu
              · rename_i hq
                rw [if_pos hq] at hd
                obtain ⟨d',u',b1,b2,b3,b4⟩ := hget q (by omega)
                rw [show (φ n).base + j * sz + off + q = (φ n).base + j * sz + (off + q) by omega,b2] at hu
                rw [b1] at hd; cases hd; cases hu; exact b4
              · cases hu
          | false =>
            have hz := hsz hagg
            obtain ⟨d',u',b1,b2,b3,b4⟩ := hget 0 (by omega)
            simp only [Nat.add_zero] at b1 b2
            simp only [Bool.false_eq_true,if_false,hz]
            rw [list_drop_head b1]
            have : ((arr.toList.drop ((φ n).base + j * sz + off)).take 1).headD undef = u' := by
              rw [List.headD_eq_head?_getD,List.head?_take,List.head?_drop]
              simp [show (φ n).base + j * sz + off = (φ n).base + j * sz + off from rfl,b2]
            rw [this]; exact .f b4
end
def splice {α : Type} (cs : List α) (off : Nat) (xs : List α) : List α := cs.take off ++ xs ++ cs.drop (off + xs.length)
theorem splice_length {α : Type}{cs : List α}{off : Nat}{xs : List α} (h : off + xs.length ≤ cs.length) : (splice cs off xs).length = cs.length := by
  simp [splice]; omega
theorem splice_get {α : Type}{cs : List α}{off : Nat}{xs : List α} (h : off + xs.length ≤ cs.length) (j : Nat) :
    (splice cs off xs)[j]? = if j < off then cs[j]? else if j < off + xs.length then xs[j - off]? else cs[j]? := by
  unfold splice
  by_cases h1 : j < off
  · rw [if_pos h1,List.append_assoc,List.getElem?_append_left (by simp; omega),List.getElem?_take,if_pos h1]
  · rw [if_neg h1,List.append_assoc,List.getElem?_append_right (by simp; omega)]
    have e : (cs.take off).length = off := by simp; omega
    rw [e]
    by_cases h2 : j < off + xs.length
    · rw [if_pos h2,List.getElem?_append_left (by omega)]
    · rw [if_neg h2,List.getElem?_append_right (by omega),List.getElem?_drop]
      congr 1; omega
section
variable {P : Program}{tab : Tab}{c : Ctx}{nx : Nat}{env : Env}{H : Heap}{K : PV → Nat → Heap → Prop}{o : Oper}
def hput (H : Heap) (n : Nat) (o : Obj) : Heap := (n,o) :: drop H n
def FV.isAgg : FV → Bool
  | .agg _ => true
  | _ => false
def FV.one : FV → Bool
  | .v x => Pv.one x
  | .agg _ => false
  | _ => true
def setCells (y : FV) (off : Nat) (xs : List FV) : FV :=
  match y with
  | .agg cs => .agg (splice cs off xs)
  | _ => xs.headD y
theorem setCells_cells {y : FV}{off : Nat}{xs : List FV} (h : off + xs.length ≤ y.cells.length) (h1 : ∀ x ∈ xs,x.isAgg = false) (h0 : xs ≠ []) : (setCells y off xs).cells = splice y.cells off xs := by
  have plain : y.cells = [y] → setCells y off xs = xs.headD y → (setCells y off xs).cells = splice y.cells off xs := by
    intro e e2
    rw [e] at h
    match xs,h0 with
    | [x],_ =>
      have hx := h1 x (by simp)
      simp at h
      rw [e2,e,h]
      cases x <;> simp_all [FV.isAgg,FV.cells,splice]
    | x :: x2 :: t,_ => simp at h; omega
  cases y with
  | agg cs => rfl
  | v x => exact plain rfl rfl
  | sl a b d => exact plain rfl rfl
  | ro x => exact plain rfl rfl
def stepStore (tab : Tab) (env : Env) (H : Heap) (nx : Nat) (K : PV → Nat → Heap → Prop) (t : Nat) (x y : Operand) : Prop :=
  ∃ i pv,tab t = some i ∧ ev env y = some pv ∧ pv.storable = true ∧ pv.cells.length = i.size ∧
    ((∃ n off cs,ev env x = some (.ptr n off) ∧ look H n = some (.obj cs) ∧ off + i.size ≤ cs.length ∧ K (.f (.v undef)) nx (hput H n (.obj (splice cs off pv.cells)))) ∨
     (∃ n j off sz l z fs,ev env x = some (.ep n j off) ∧ look H n = some (.buf true sz l) ∧ l[j]? = some z ∧ off + i.size ≤ z.cells.length ∧ allF pv.cells = some fs ∧
        (fs.all fun f => !f.isAgg) = true ∧ fs ≠ [] ∧ K (.f (.v undef)) nx (hput H n (.buf true sz (l.set j (setCells z off fs))))))
theorem Does.skip {P : Program}{o : Oper}{c : Ctx}{nx : Nat}{env : Env}{H : Heap}{K : PV → Nat → Heap → Prop}
    (h : ∀ φ tmps w,StΦ c nx env H φ tmps w → ∃ nx' H' φ' w',(execOp (act tmps).eval o).run P w = .ok .skip w' ∧ K (.f (.v undef)) nx' H' ∧
      StΦ c nx' env H' φ' tmps w') : Does P o c nx env H K := by
  intro φ tmps w hs next Q hn
  obtain ⟨nx',H',φ',w',hr,hk,hs'⟩ := h φ tmps w hs
  unfold Oper.wp
  rw [hr,Oper.upon_skip]
  exact hn _ nx' H' φ' undef w' hk hs' (.f (.v undef))
theorem exec_store {t : Nat}{x y : Operand}{tmps : Array Value}{w w' : World}{b off : Nat}{v : Value}{n : Nat} (ho : o.op = .store t x y) (hv : (act tmps).eval x = .pointer (some ⟨b,off,none⟩))
    (hy : (act tmps).eval y = v) (hz : (sizeOf t).run P w = .ok n w) (hn : v.cells.size = n)
    (hst : (storeCells ⟨b,off,none⟩ v.cells.toList 0).run P w = .ok () w') : (execOp (act tmps).eval o).run P w = .ok .skip w' := by
  simp only [execOp,ho,Instr.storeAt,Instr.sureAddr,hv,hy,storeVar]
  simp only [Sem.run_bind,Sem.run_pure,Result.andThen_ok,hz,hn]
  simp [hst]
theorem upd_self {φ : Nat → Phys}{n : Nat} : upd φ n (φ n) = φ := by
  funext m; unfold upd; split
  · rename_i h; rw [h]
  · rfl
theorem allF_cells {pv : PV}{fs : List FV} (h : allF pv.cells = some fs) {φ : Nat → Phys}{w : World}{S : Nat → Nat → Prop}{u : Value}{j : Nat}{d : FV} (hd : fs[j]? = some d)
    (hr : ∀ e,pv.cells[j]? = some e → Rep φ nx w S e u) : RepF w S d u := by
  have e := allF_map h
  have := hr (.f d) (by rw [e]; simp [hd])
  cases this with|f h => exact h
theorem does_store (ht : TabOk P tab) {t : Nat}{x y : Operand} (ho : o.op = .store t x y) (h : stepStore tab env H nx K t x y) : Does P o c nx env H K :=
  Does.skip fun φ tmps w hs => by
    obtain ⟨i,pv,h1,h2,h3,h4,h⟩ := h
    have hy := ev_rep hs h2
    obtain ⟨c1,c2⟩ := hy.cells h3
    rcases h with ⟨n,off,cs,k1,k2,k3,k4⟩|⟨n,j,off,sz,l,z,fs,k1,k2,k3,k4,k5,k6,k7,k8⟩
    · have hr := ev_rep hs k1
      obtain ⟨hnx,hsat⟩ := hs.ok.obj n _ k2
      obtain ⟨hnil,arr,ty,a1,a2,a3⟩ := hsat
      generalize hv : (act tmps).eval x = v at hr
      generalize hv2 : (act tmps).eval y = v2 at hy c1 c2
      cases hr
      have hst := run_storeCells_at P (φ n).blk off ty v2.cells.toList 0 arr w a1 (by simp; omega) (fun u hu => by
        obtain ⟨q,hq⟩ := List.getElem?_of_mem hu
        have hq' : v2.cells[q]? = some u := by simpa using hq
        have hlt : q < pv.cells.length := by rw [← c1]; exact (Array.getElem?_eq_some_iff.1 hq').1
        obtain ⟨u',b1,b2,b3⟩ := c2 q pv.cells[q] (by simp [hlt])
        rw [b1] at hq'; cases hq'; exact b2)
      have hex := exec_store ho hv hv2 (run_size ht h1 w) (by rw [c1,h4]) hst
      simp only [Nat.add_zero] at hex
      refine ⟨_,_,φ,_,hex,k4, ?_⟩
      have hlen : off + pv.cells.length ≤ cs.length := by rw [h4]; exact k3
      have hw := hs.write (n := n) (m := n) (nx' := nx) (o' := .obj (splice cs off pv.cells)) (p := φ n) (w' := w.setRow (φ n).blk (arr.toList.take off ++ v2.cells.toList ++ arr.toList.drop (off + v2.cells.toList.length)).toArray)
        k2 hnil (.inl ⟨rfl,rfl,rfl⟩) hnil rfl (Nat.le_refl _) rfl rfl rfl (by simp) (fun b hb => setRow_other w _ b _ hb) (fun q hq => by simp [lim] at hq) (fun hm => by
          rw [upd_self] at hm ⊢
          refine ⟨hnil,_,ty,setRow_heap w _ arr _ ty _ a1, ?_,fun q d hd => ?_⟩
          · rw [splice_length hlen,← a2]; simp; omega
          · have e : (arr.toList.take off ++ v2.cells.toList ++ arr.toList.drop (off + v2.cells.toList.length)) = splice arr.toList off v2.cells.toList := rfl
            rw [splice_get hlen] at hd
            rw [e,List.getElem?_toArray,splice_get (by simp; omega)]
            by_cases q1 : q < off
            · rw [if_pos q1] at hd ⊢
              obtain ⟨u,b1,b2,b3⟩ := a3 q d hd
              exact ⟨u,by simpa using b1,b2,b3.step (fun _ _ => rfl) (Nat.le_refl _) hm⟩
            · rw [if_neg q1] at hd ⊢
              have e2 : v2.cells.toList.length = pv.cells.length := by simp [c1]
              rw [e2]
              by_cases q2 : q < off + pv.cells.length
              · rw [if_pos q2] at hd ⊢
                obtain ⟨u,b1,b2,b3⟩ := c2 _ d hd
                exact ⟨u,by simpa using b1,b2,b3.step (fun _ _ => rfl) (Nat.le_refl _) hm⟩
              · rw [if_neg q2] at hd ⊢
                obtain ⟨u,b1,b2,b3⟩ := a3 q d hd
                exact ⟨u,by simpa using b1,b2,b3.step (fun _ _ => rfl) (Nat.le_refl _) hm⟩)
      rw [upd_self] at hw
      exact hw
    · have hr := ev_rep hs k1
      obtain ⟨hnx,hsat⟩ := hs.ok.obj n _ k2
      generalize hv : (act tmps).eval x = v at hr
      generalize hv2 : (act tmps).eval y = v2 at hy c1 c2
      cases hr with
      | ep _ hnil hlt =>
      obtain ⟨e1,e2,e3⟩ := hsat
      rcases e3 with ⟨e3,_⟩|⟨_,arr,ty,a1,a2,a3,a4,a5⟩
      · rw [hnil] at e3; cases e3
      have hl : j < l.length := (List.getElem?_eq_some_iff.1 k3).1
      have hcap : j * sz + sz ≤ (φ n).cap * sz := by
        have := Nat.mul_le_mul_right sz (show j + 1 ≤ (φ n).cap by omega)
        rw [Nat.add_mul] at this; omega
      have hzc := a4 j z k3
      have hfl : fs.length = pv.cells.length := by rw [allF_map k5]; simp
      rw [e2] at hv
      have hst := run_storeCells_at P (φ n).blk ((φ n).base + j * sz + off) ty v2.cells.toList 0 arr w a1 (by simp; omega) (fun u hu => by
        obtain ⟨q,hq⟩ := List.getElem?_of_mem hu
        have hq' : v2.cells[q]? = some u := by simpa using hq
        have hlt : q < pv.cells.length := by rw [← c1]; exact (Array.getElem?_eq_some_iff.1 hq').1
        obtain ⟨u',b1,b2,b3⟩ := c2 q pv.cells[q] (by simp [hlt])
        rw [b1] at hq'; cases hq'; exact b2)
      have hex := exec_store ho hv hv2 (run_size ht h1 w) (by rw [c1,h4]) hst
      simp only [Nat.add_zero] at hex
      refine ⟨_,_,φ,_,hex,k8, ?_⟩
      have hsc : (setCells z off fs).cells = splice z.cells off fs := setCells_cells (by omega) (fun x hx => by
        have := List.all_eq_true.1 k6 x hx; simpa using this) k7
      have hw := hs.write (n := n) (m := n) (nx' := nx) (o' := .buf true sz (l.set j (setCells z off fs))) (p := φ n)
        (w' := w.setRow (φ n).blk (arr.toList.take ((φ n).base + j * sz + off) ++ v2.cells.toList ++ arr.toList.drop ((φ n).base + j * sz + off + v2.cells.toList.length)).toArray)
        k2 hnil (.inl ⟨rfl,rfl,rfl⟩) hnil rfl (Nat.le_refl _) rfl rfl rfl (by simp) (fun b hb => setRow_other w _ b _ hb) (fun q hq => by simp [lim] at hq) (fun hm => by
          rw [upd_self] at hm ⊢
          refine ⟨by simp [e1],e2,.inr ⟨hnil,_,ty,setRow_heap w _ arr _ ty _ a1, ?_,by simp [a3], ?_, ?_⟩⟩
          · simp; omega
          · intro q d hd
            rw [List.getElem?_set] at hd
            split at hd
            · rename_i hjq
              cases hd
              rw [hsc,splice_length (by omega)]; exact hzc
            · exact a4 q d hd
          · intro q d r cc hd hr
            have e : (arr.toList.take ((φ n).base + j * sz + off) ++ v2.cells.toList ++ arr.toList.drop ((φ n).base + j * sz + off + v2.cells.toList.length)) = splice arr.toList ((φ n).base + j * sz + off) v2.cells.toList := rfl
            rw [e,List.getElem?_toArray,splice_get (by simp; omega)]
            have e2 : v2.cells.toList.length = pv.cells.length := by simp [c1]
            rw [e2]
            rw [List.getElem?_set] at hd
            split at hd
            · rename_i hjq
              subst hjq
              cases hd
              rw [hsc,splice_get (by omega)] at hr
              by_cases q1 : r < off
              · rw [if_pos q1] at hr
                rw [if_pos (by omega)]
                obtain ⟨u,b1,b2,b3⟩ := a5 j z r cc k3 hr
                exact ⟨u,by simpa using b1,b2,b3.step hm⟩
              · rw [if_neg q1] at hr
                rw [if_neg (by omega)]
                by_cases q2 : r < off + fs.length
                · rw [if_pos q2] at hr
                  rw [if_pos (by omega)]
                  have hlt : r - off < pv.cells.length := by omega
                  obtain ⟨u,b1,b2,b3⟩ := c2 (r - off) pv.cells[r - off] (by simp [hlt])
                  refine ⟨u, ?_,b2, ?_⟩
                  · rw [show (φ n).base + j * sz + r - ((φ n).base + j * sz + off) = r - off by omega]; simpa using b1
                  · refine allF_cells (nx := nx) (φ := φ) k5 hr fun e he => ?_
                    rw [List.getElem?_eq_getElem hlt] at he; cases he
                    exact b3.step (fun _ _ => rfl) (Nat.le_refl _) hm
                · rw [if_neg q2] at hr
                  rw [if_neg (by omega)]
                  obtain ⟨u,b1,b2,b3⟩ := a5 j z r cc k3 hr
                  exact ⟨u,by simpa using b1,b2,b3.step hm⟩
            · rename_i hjq
              obtain ⟨u,b1,b2,b3⟩ := a5 q d r cc hd hr
              have hrl : r < sz := by rw [← a4 q d hd]; exact (List.getElem?_eq_some_iff.1 hr).1
              have hne : (φ n).base + q * sz + r < (φ n).base + j * sz + off ∨ ¬ ((φ n).base + q * sz + r < (φ n).base + j * sz + off + pv.cells.length) := by
                rcases Nat.lt_or_gt_of_ne (show q ≠ j from fun e => hjq e.symm) with h|h
                · have := Nat.mul_le_mul_right sz (show q + 1 ≤ j by omega)
                  rw [Nat.add_mul] at this; left; omega
                · have := Nat.mul_le_mul_right sz (show j + 1 ≤ q by omega)
                  rw [Nat.add_mul] at this; right; omega
              refine ⟨u, ?_,b2,b3.step hm⟩
              rcases hne with h|h
              · rw [if_pos h]; simpa using b1
              · rw [if_neg (by omega),if_neg h]; simpa using b1)
      rw [upd_self] at hw
      exact hw
def PV.isPtr : PV → Prop
  | .ptr ..|.ep ..|.f (.ro _)|.clo (.func _) _ => True
  | _ => False
def stepNilCheck (env : Env) (H : Heap) (nx : Nat) (K : PV → Nat → Heap → Prop) (x : Operand) : Prop :=
  ∃ pv,ev env x = some pv ∧ pv.isPtr ∧ K pv nx H
theorem does_nilCheck {x : Operand} (ho : o.op = .nilCheck x) (h : stepNilCheck env H nx K x) : Does P o c nx env H K :=
  Does.pure fun φ tmps w hs => by
    obtain ⟨pv,h1,h2,h3⟩ := h
    have hr := ev_rep hs h1
    refine ⟨pv,_, ?_,h3,hr⟩
    generalize hv : (act tmps).eval x = v at hr
    simp only [execOp,ho,hv]
    cases hr with
    | f hr => cases hr <;> first|exact h2.elim|rfl
    | clo fn cs vs => cases fn <;> first|exact h2.elim|rfl
    | ptr => rfl
    | ep => rfl
    | _ => exact h2.elim
def stepUn (op : UnOp) (C : Value → Prop) : Value → Prop
  | .int k a =>
    match op with
    | .neg => C (.int k (k.wrap (0 - a)))
    | .xor => C (.int k (bitI .xor k (if k.signed then -1 else k.max) a))
    | _ => False
  | .bool b =>
    match op with
    | .not => C (.bool (!b))
    | _ => False
  | _ => False
def stepUnOp (env : Env) (H : Heap) (nx : Nat) (K : PV → Nat → Heap → Prop) (op : UnOp) (x : Operand) : Prop :=
  ∃ v,ev env x = some (.f (.v v)) ∧ stepUn op (fun r => K (.f (.v r)) nx H) v
theorem does_unOp {op : UnOp}{t : Nat}{x : Operand} (ho : o.op = .unOp op t x) (h : stepUnOp env H nx K op x) : Does P o c nx env H K :=
  Does.pure fun φ tmps w hs => by
    obtain ⟨v,h1,h2⟩ := h
    have e := (ev_rep hs h1).v_inv
    unfold stepUn at h2
    split at h2
    · cases op <;> simp only [] at h2
      · exact ⟨_,_,by simp [execOp,ho,e,Op.unary,Op.intArith],h2,.f (.v _)⟩
      · exact ⟨_,_,by simp [execOp,ho,e,Op.unary,Op.intBits,bitI],h2,.f (.v _)⟩
    · cases op <;> simp only [] at h2
      exact ⟨_,_,by simp [execOp,ho,e,Op.unary],h2,.f (.v _)⟩
    · exact h2.elim
def stepBinOp (tab : Tab) (env : Env) (H : Heap) (nx : Nat) (K : PV → Nat → Heap → Prop) (op : BinOp) (t : Nat) (x y : Operand) : Prop :=
  ∃ a b,ev env x = some (.f (.v a)) ∧ ev env y = some (.f (.v b)) ∧ stepBin op ((tab t).elim .other (·.kd)) (fun r => K (.f (.v r)) nx H) a b
theorem does_binOp (ht : TabOk P tab) {op : BinOp}{t u : Nat}{x y : Operand} (ho : o.op = .binOp op t x y u) (h : stepBinOp tab env H nx K op t x y) : Does P o c nx env H K :=
  Does.pure fun φ tmps w hs => by
    obtain ⟨a,b,h1,h2,h3⟩ := h
    have e1 := (ev_rep hs h1).v_inv
    have e2 := (ev_rep hs h2).v_inv
    obtain ⟨r,k1,k2,k3,k4⟩ := run_stepBin (P := P) (t := t) ht (by cases hq : tab t with|none => exact .inl rfl|some i => exact .inr ⟨i,rfl,rfl⟩) w h3
    refine ⟨_,r, ?_,k1,.f (.v r)⟩
    simp only [execOp,ho,e1,e2]
    simp only [Sem.run_bind,run_eqGuard_plain w k4,k3,Result.andThen_ok,Sem.run_pure]
def stepConv (tab : Tab) (env : Env) (H : Heap) (nx : Nat) (K : PV → Nat → Heap → Prop) (s t : Nat) (x : Operand) : Prop :=
  ∃ is it,tab s = some is ∧ tab t = some it ∧
    ((∃ k k' a,it.kd = .int k ∧ ev env x = some (.f (.v (.int k' a))) ∧ (∃ k2,is.kd = .int k2) ∧ K (.f (.v (.int k (k.wrap a)))) nx H) ∨
     (∃ a,it.kd = .str ∧ is.kd = .str ∧ ev env x = some (.f (.v (.string a))) ∧ K (.f (.v (.string a))) nx H))
theorem does_convert (ht : TabOk P tab) {s t : Nat}{x : Operand} (ho : o.op = .convert s t x) (h : stepConv tab env H nx K s t x) : Does P o c nx env H K :=
  Does.pure fun φ tmps w hs => by
    obtain ⟨is,it,h1,h2,h⟩ := h
    have u1 := (ht s is h1).under
    have u2 := (ht t it h2).under
    rcases h with ⟨k,k',a,e1,e2,⟨k2,e3⟩,h⟩|⟨a,e1,e2,e3,h⟩
    · rw [e1] at u2; rw [e3] at u1
      simp only [Under] at u1 u2
      refine ⟨_,_, ?_,h,.f (.v _)⟩
      simp [execOp,ho,(ev_rep hs e2).v_inv,convert,run_underlying u1,run_underlying u2,Conv.intToInt]
    · rw [e1] at u2; rw [e2] at u1
      simp only [Under] at u1 u2
      refine ⟨_,_, ?_,h,.f (.v _)⟩
      simp [execOp,ho,(ev_rep hs e3).v_inv,convert,run_underlying u1,run_underlying u2]
def stepExtract (env : Env) (H : Heap) (nx : Nat) (K : PV → Nat → Heap → Prop) (x : Operand) (i : Nat) : Prop :=
  ∃ xs d,ev env x = some (.tup xs) ∧ xs[i]? = some d ∧ K d nx H
theorem does_extract {x : Operand}{i : Nat} (ho : o.op = .extract x i) (h : stepExtract env H nx K x i) : Does P o c nx env H K :=
  Does.pure fun φ tmps w hs => by
    obtain ⟨xs,d,h1,h2,h3⟩ := h
    have hr := ev_rep hs h1
    generalize hv : (act tmps).eval x = v at hr
    cases hr with
    | tup _ vs e1 e2 =>
      have hlt : i < vs.size := by rw [e1]; exact (List.getElem?_eq_some_iff.1 h2).1
      refine ⟨d,vs[i], ?_,h3,e2 i d _ h2 (by simp [hlt])⟩
      simp [execOp,ho,hv,Instr.extract,hlt]
def stepMakeFunc (env : Env) (H : Heap) (nx : Nat) (K : PV → Nat → Heap → Prop) (fn : Fn) (caps : List Operand) : Prop :=
  ∃ xs,caps.mapM (ev env) = some xs ∧ K (.clo fn xs) nx H
theorem mapM_get {env : Env} : ∀ {caps : List Operand}{xs : List PV},caps.mapM (ev env) = some xs → xs.length = caps.length ∧ ∀ (i : Nat) x,xs[i]? = some x → ∃ op,caps[i]? = some op ∧ ev env op = some x
  | [],xs,h => by simp at h; subst h; exact ⟨rfl,fun i x hx => by simp at hx⟩
  | op :: caps,xs,h => by
    simp only [List.mapM_cons,Option.bind_eq_bind,Option.pure_def,Option.bind_eq_some_iff] at h
    obtain ⟨y,h1,ys,h2,h3⟩ := h
    cases h3
    obtain ⟨a,b⟩ := mapM_get h2
    refine ⟨by simp [a],fun i x hx => ?_⟩
    cases i with
    | zero => simp at hx; subst hx; exact ⟨op,rfl,h1⟩
    | succ i => simpa using b i x (by simpa using hx)
theorem does_makeFunc {fn : Fn}{caps : Array Operand} (ho : o.op = .makeFunc fn #[] caps) (h : stepMakeFunc env H nx K fn caps.toList) : Does P o c nx env H K :=
  Does.pure fun φ tmps w hs => by
    obtain ⟨xs,h1,h2⟩ := h
    obtain ⟨a,b⟩ := mapM_get h1
    refine ⟨_,_, ?_,h2,.clo fn xs (caps.map (act tmps).eval) (by simp [a]) fun i x u hx hu => ?_⟩
    · simp [execOp,ho,Instr.makeFunc]
    · obtain ⟨op,c1,c2⟩ := b i x hx
      have hq : caps[i]? = some op := by simpa using c1
      simp [hq] at hu
      subst hu
      exact ev_rep hs c2
end
section
variable {P : Program}{tab : Tab}{c : Ctx}{nx : Nat}{env : Env}{H : Heap}{K : PV → Nat → Heap → Prop}{o : Oper}
theorem under_slice (ht : TabOk P tab) {t e : Nat}{i : TI} (h : tab t = some i) (hk : i.kd = .slice e) : P.underlying t = some (.slice e) := by
  have := (ht t i h).under; rw [hk] at this; exact this
theorem under_arr (ht : TabOk P tab) {t n e : Nat}{i : TI} (h : tab t = some i) (hk : i.kd = .arr n e) : P.underlying t = some (.array n e) := by
  have := (ht t i h).under; rw [hk] at this; exact this
theorem under_str (ht : TabOk P tab) {t : Nat}{i : TI} (h : tab t = some i) (hk : i.kd = .str) : P.underlying t = some .string := by
  have := (ht t i h).under; rw [hk] at this; exact this
theorem run_struct (ht : TabOk P tab) {t : Nat}{i : TI}{fs : List (Nat × Nat)} (h : tab t = some i) (hk : i.kd = .struct fs) {q off ft : Nat} (hf : fs[q]? = some (off,ft)) :
    ∃ F f,P.underlying t = some (.struct F) ∧ F[q]? = some f ∧ f.offset = off ∧ f.type = ft := by
  have := (ht t i h).under
  rw [hk] at this
  obtain ⟨F,h1,h2⟩ := this
  rw [← h2] at hf
  simp only [List.getElem?_map,Option.map_eq_some_iff,Array.getElem?_toList] at hf
  obtain ⟨f,h3,h4⟩ := hf
  cases h4
  exact ⟨F,f,h1,h3,rfl,rfl⟩
def partF (agg : Bool) (cs : List FV) (off n : Nat) : FV := if agg then .agg ((cs.drop off).take n) else (cs.drop off).headD (.v undef)
def stepFieldAddr (tab : Tab) (env : Env) (H : Heap) (nx : Nat) (K : PV → Nat → Heap → Prop) (s : Nat) (x : Operand) (q : Nat) : Prop :=
  ∃ i fs off ft it,tab s = some i ∧ i.kd = .struct fs ∧ fs[q]? = some (off,ft) ∧ tab ft = some it ∧ it.size ≠ 0 ∧ (it.kd.agg = false → it.size = 1) ∧
    ((∃ n o1,ev env x = some (.ptr n o1) ∧ K (.ptr n (o1 + off)) nx H) ∨
     (∃ cs,ev env x = some (.f (.ro (.agg cs))) ∧ off + it.size ≤ cs.length ∧ (it.kd.agg = false → (partF false cs off 1).isAgg = false) ∧ K (.f (.ro (partF it.kd.agg cs off it.size))) nx H) ∨
     (∃ n j o1,ev env x = some (.ep n j o1) ∧ K (.ep n j (o1 + off)) nx H))
theorem exec_fieldAddr (ht : TabOk P tab) {s q : Nat}{x : Operand}{tmps : Array Value}{w : World}{b off0 : Nat}{i : TI}{fs : List (Nat × Nat)}{off ft : Nat}{it : TI} (ho : o.op = .fieldAddr s x q)
    (h : tab s = some i) (hk : i.kd = .struct fs) (hf : fs[q]? = some (off,ft)) (hft : tab ft = some it) (hz : it.size ≠ 0)
    (hv : (act tmps).eval x = .pointer (some ⟨b,off0,none⟩)) : (execOp (act tmps).eval o).run P w = .ok (.value (.pointer (some ⟨b,off0 + off,none⟩))) w := by
  obtain ⟨F,f,h1,h2,h3,h4⟩ := run_struct ht h hk hf
  simp only [execOp,ho,Instr.fieldAt,hv,Instr.sureAddr,fieldPlace]
  simp only [Sem.run_bind,run_underlying h1,Result.andThen_ok,h2,Sem.run_pure,h4,run_size ht hft,hz,if_false,h3,add_plain]
theorem does_fieldAddr (ht : TabOk P tab) {s q : Nat}{x : Operand} (ho : o.op = .fieldAddr s x q) (h : stepFieldAddr tab env H nx K s x q) : Does P o c nx env H K :=
  Does.pure fun φ tmps w hs => by
    obtain ⟨i,fs,off,ft,it,h1,h2,h3,h4,h5,h6,h⟩ := h
    rcases h with ⟨n,o1,k1,k2⟩|⟨cs,k1,k2,k3,k4⟩|⟨n,j,o1,k1,k2⟩
    · have hr := ev_rep hs k1
      generalize hv : (act tmps).eval x = v at hr
      cases hr with
      | ptr hlt => exact ⟨_,_,exec_fieldAddr ht ho h1 h2 h3 h4 h5 hv,k2,.ptr hlt⟩
    · have hr := ev_rep hs k1
      generalize hv : (act tmps).eval x = v at hr
      cases hr with
      | f hr =>
      cases hr with
      | ro _ b o1 val g1 g2 =>
        refine ⟨_,_,exec_fieldAddr ht ho h1 h2 h3 h4 h5 hv,k4,.f (.ro _ b (o1 + off) (fun j => val (off + j)) (fun j d hd => ?_) (fun j d hd => ?_))⟩
        all_goals
          have hcs : cs[off + j]? = some d := by
            unfold partF at hd
            cases ha : it.kd.agg with
            | true =>
              rw [ha] at hd
              simp only [if_true,FV.cells,List.getElem?_take,List.getElem?_drop] at hd
              split at hd
              · exact hd
              · cases hd
            | false =>
              have hk := k3 ha
              rw [ha] at hd
              unfold partF at hk
              simp only [Bool.false_eq_true,if_false] at hd hk
              have hlt : off < cs.length := by have := h6 ha; omega
              have e : (cs.drop off).headD (.v undef) = cs[off] := list_drop_head (by simp [hlt])
              rw [e] at hd hk
              have e2 : (cs[off]).cells = [cs[off]] := by cases hq : cs[off] <;> simp_all [FV.cells,FV.isAgg]
              rw [e2] at hd
              cases j with
              | zero => simp at hd; subst hd; simp [hlt]
              | succ j => simp at hd
        · have := g1 (off + j) d hcs
          rw [Nat.add_assoc]; exact this
        · exact g2 (off + j) d hcs
    · have hr := ev_rep hs k1
      generalize hv : (act tmps).eval x = v at hr
      cases hr with
      | ep hlt hnil hj =>
        refine ⟨_,_,exec_fieldAddr ht ho h1 h2 h3 h4 h5 hv,k2, ?_⟩
        rw [Nat.add_assoc]; exact .ep hlt hnil hj
def stepField (tab : Tab) (env : Env) (H : Heap) (nx : Nat) (K : PV → Nat → Heap → Prop) (s : Nat) (x : Operand) (q : Nat) : Prop :=
  ∃ i fs off ft it,tab s = some i ∧ i.kd = .struct fs ∧ fs[q]? = some (off,ft) ∧ tab ft = some it ∧ (it.kd.agg = false → it.size = 1) ∧
    ((∃ cs,ev env x = some (.agg cs) ∧ off + it.size ≤ cs.length ∧ K (if it.kd.agg then mkAgg ((cs.drop off).take it.size) else (cs.drop off).headD (.f (.v undef))) nx H) ∨
     (∃ cs,ev env x = some (.f (.agg cs)) ∧ off + it.size ≤ cs.length ∧ K (.f (partF it.kd.agg cs off it.size)) nx H))
theorem exec_field (ht : TabOk P tab) {s q : Nat}{x : Operand}{tmps : Array Value}{w : World}{i : TI}{fs : List (Nat × Nat)}{off ft : Nat}{it : TI}{vs : Array Value} (ho : o.op = .field s x q)
    (h : tab s = some i) (hk : i.kd = .struct fs) (hf : fs[q]? = some (off,ft)) (hft : tab ft = some it) (h1' : it.kd.agg = false → it.size = 1) (hl : off + it.size ≤ vs.size)
    (hv : (act tmps).eval x = .agg vs) : (execOp (act tmps).eval o).run P w = .ok (.value (if it.kd.agg then .agg (vs.extract off (off + it.size)) else vs.getD off undef)) w := by
  obtain ⟨F,f,h1,h2,h3,h4⟩ := run_struct ht h hk hf
  simp only [execOp,ho,Instr.field,hv]
  simp only [Sem.run_bind,run_underlying h1,Result.andThen_ok,h2,Sem.run_pure,asAgg,part,h4,run_isAgg ht hft]
  cases ha : it.kd.agg with
  | true => simp only [if_true,Sem.run_bind,run_size ht hft,Result.andThen_ok,h3,Sem.run_pure]
  | false =>
    have := h1' ha
    have hlt : off < vs.size := by omega
    simp [h3,hlt]
theorem does_field (ht : TabOk P tab) {s q : Nat}{x : Operand} (ho : o.op = .field s x q) (h : stepField tab env H nx K s x q) : Does P o c nx env H K :=
  Does.pure fun φ tmps w hs => by
    obtain ⟨i,fs,off,ft,it,h1,h2,h3,h4,h6,h⟩ := h
    rcases h with ⟨cs,k1,k2,k3⟩|⟨cs,k1,k2,k3⟩
    · have hr := ev_rep hs k1
      generalize hv : (act tmps).eval x = v at hr
      cases hr with
      | agg _ vs e1 e2 e3 =>
        refine ⟨_,_,exec_field ht ho h1 h2 h3 h4 h6 (by omega) hv,k3, ?_⟩
        cases ha : it.kd.agg with
        | true =>
          simp only [if_true]
          refine Rep.mkAgg (by simp; omega) (fun j u hu => ?_) (fun j d u hd hu => ?_)
          · simp only [Array.getElem?_extract] at hu
            split at hu
            · exact e2 _ u hu
            · cases hu
          · simp only [Array.getElem?_extract] at hu
            simp only [List.getElem?_take,List.getElem?_drop] at hd
            split at hu
            · split at hd
              · exact e3 _ d u hd hu
              · cases hd
            · cases hu
        | false =>
          have := h6 ha
          have hlt : off < cs.length := by omega
          have hlt2 : off < vs.size := by omega
          simp only [Bool.false_eq_true,if_false]
          rw [list_drop_head (x := cs[off]) (by simp [hlt])]
          simp only [Array.getD_eq_getD_getElem?,Array.getElem?_eq_getElem hlt2,Option.getD_some]
          exact e3 off _ _ (by simp [hlt]) (by simp [hlt2])
    · have hr := ev_rep hs k1
      generalize hv : (act tmps).eval x = v at hr
      cases hr with
      | f hr =>
      cases hr with
      | agg _ vs e1 e2 e3 =>
        refine ⟨_,_,exec_field ht ho h1 h2 h3 h4 h6 (by omega) hv,k3, ?_⟩
        unfold partF
        cases ha : it.kd.agg with
        | true =>
          simp only [if_true]
          refine .f (.agg _ _ (by simp; omega) (fun j u hu => ?_) (fun j d u hd hu => ?_))
          · simp only [Array.getElem?_extract] at hu
            split at hu
            · exact e2 _ u hu
            · cases hu
          · simp only [Array.getElem?_extract] at hu
            simp only [List.getElem?_take,List.getElem?_drop] at hd
            split at hu
            · split at hd
              · exact e3 _ d u hd hu
              · cases hd
            · cases hu
        | false =>
          have := h6 ha
          have hlt : off < cs.length := by omega
          have hlt2 : off < vs.size := by omega
          simp only [Bool.false_eq_true,if_false]
          rw [list_drop_head (x := cs[off]) (by simp [hlt])]
          simp only [Array.getD_eq_getD_getElem?,Array.getElem?_eq_getElem hlt2,Option.getD_some]
          exact .f (e3 off _ _ (by simp [hlt]) (by simp [hlt2]))
def view {α : Type} (lo : Nat) (hi : Option Nat) (l : List α) : List α := match hi with|none => l.drop lo|some h => (l.take h).drop lo
theorem view_length {α : Type}{lo : Nat}{hi : Option Nat}{l : List α} (h : hi.getD l.length ≤ l.length) : (view lo hi l).length = hi.getD l.length - lo := by
  cases hi <;> simp [view] at *
  omega
theorem view_get {α : Type}{lo : Nat}{hi : Option Nat}{l : List α} (h : hi.getD l.length ≤ l.length) {j : Nat} (hj : j < (view lo hi l).length) : (view lo hi l)[j]? = l[lo + j]? := by
  cases hi with
  | none => simp [view]
  | some k =>
    rw [view_length h] at hj
    simp at hj
    simp [view,List.getElem?_drop,List.getElem?_take]
    omega
def Holds (env : Env) (H : Heap) (x : Operand) (sz : Nat) (l : List FV) : Prop :=
  (∃ cl,ev env x = some (.f (.sl sz cl l))) ∨ (∃ a b,ev env x = some (.f (.v (.slice none a b))) ∧ a = 0 ∧ b = 0 ∧ l = []) ∨
  (∃ n lo hi wr m,ev env x = some (.ref n lo hi) ∧ look H n = some (.buf wr sz m) ∧ l = view lo hi m)
theorem Holds.lies {φ : Nat → Phys}{tmps : Array Value}{w : World} (hs : StΦ c nx env H φ tmps w) {x : Operand}{sz : Nat}{l : List FV} (h : Holds env H x sz l) :
    ∃ a cap,(act tmps).eval x = .slice a l.length cap ∧ l.length ≤ cap ∧ (a = none → l = [] ∧ cap = 0) ∧ (∀ (i : Nat) y,l[i]? = some y → y.cells.length = sz) ∧
      (∀ p,a = some p → l ≠ [] → p.spot = none ∧ ∀ (i : Nat) y (j : Nat) d,l[i]? = some y → y.cells[j]? = some d →
        ∃ u,w.cell? ⟨p.block,p.off + i * sz + j,none⟩ = some u ∧ one u = true ∧ RepF w (SS c.So φ H) d u) := by
  rcases h with ⟨cl,h⟩|⟨a,b,h,rfl,rfl,rfl⟩|⟨n,lo,hi,wr,m,h,hm,rfl⟩
  · have hr := ev_rep hs h
    generalize hv : (act tmps).eval x = v at hr
    cases hr with
    | f hr =>
    cases hr with
    | slnil => exact ⟨none,0,rfl,Nat.le_refl _,fun _ => ⟨rfl,rfl⟩,fun i y hy => by simp at hy,fun p hp => by cases hp⟩
    | slemp _ _ A => exact ⟨some A,0,rfl,Nat.le_refl _,fun e => (by cases e),fun i y hy => by simp at hy,fun p hp hne => absurd rfl hne⟩
    | sl _ _ _ b off cap val h1 h2 h3 h4 h5 =>
      refine ⟨_,cap,rfl,h1,fun e => (by cases e),h3,fun p hp hne => ?_⟩
      cases hp
      refine ⟨rfl,fun i y j d hy hd => ?_⟩
      obtain ⟨a1,a2,a3⟩ := h4 i y j d hy hd
      exact ⟨_,a1,a3,h5 i y j d hy hd⟩
  · rw [(ev_rep hs h).v_inv]
    exact ⟨none,0,rfl,Nat.le_refl _,fun _ => ⟨rfl,rfl⟩,fun i y hy => by simp at hy,fun p hp => by cases hp⟩
  · have hr := ev_rep hs h
    obtain ⟨hnx,e1,e2,e3⟩ := hs.ok.obj n _ hm
    generalize hv : (act tmps).eval x = v at hr
    cases hr with
    | @refnil _ hi _ hnil hlen hh0 =>
      rw [e1] at hlen
      have : m = [] := List.eq_nil_of_length_eq_zero hlen
      subst this
      have hv0 : view 0 hi ([] : List FV) = [] := by cases hi <;> simp [view]
      rw [hv0]
      exact ⟨none,0,rfl,Nat.le_refl _,fun _ => ⟨rfl,rfl⟩,fun i y hy => by simp at hy,fun p hp => by cases hp⟩
    | @ref _ _ _ cap A _ hnil h1 h2 h3 h4 h5 =>
      rcases e3 with ⟨e3,_⟩|⟨_,arr,ty,a1,a2,a3,a4,a5⟩
      · rw [hnil] at e3; cases e3
      rw [e1] at h1 h2 h4 ⊢
      have hvl := view_length (lo := lo) h2
      refine ⟨some A,cap,by rw [hvl],by rw [hvl]; omega,fun e => (by cases e),fun i y hy => ?_,fun p hp hne => ?_⟩
      · have hi' : i < (view lo hi m).length := (List.getElem?_eq_some_iff.1 hy).1
        rw [view_get h2 hi'] at hy
        exact a4 _ y hy
      · cases hp
        have hc : cap ≠ 0 := by
          intro e
          apply hne
          apply List.eq_nil_of_length_eq_zero
          rw [hvl]; omega
        have hA := h5 hc
        subst hA
        refine ⟨rfl,fun i y j d hy hd => ?_⟩
        have hi' : i < (view lo hi m).length := (List.getElem?_eq_some_iff.1 hy).1
        rw [view_get h2 hi'] at hy
        obtain ⟨u,b1,b2,b3⟩ := a5 _ y j d hy hd
        refine ⟨u, ?_,b2,b3⟩
        rw [cell_heap a1,e2]
        rw [show (φ n).base + lo * sz + i * sz + j = (φ n).base + (lo + i) * sz + j by rw [Nat.add_mul]; omega]
        exact b1
def stepLen (tab : Tab) (env : Env) (H : Heap) (nx : Nat) (K : PV → Nat → Heap → Prop) (t : Nat) (x : Operand) : Prop :=
  ∃ i,tab t = some i ∧
    ((∃ e sz l,i.kd = .slice e ∧ Holds env H x sz l ∧ K (.f (.v (.int .i64 l.length))) nx H) ∨
     (∃ s,i.kd = .str ∧ ev env x = some (.f (.v (.string s))) ∧ K (.f (.v (.int .i64 s.size))) nx H) ∨
     (∃ n e,i.kd = .arr n e ∧ K (.f (.v (.int .i64 n))) nx H))
theorem does_len (ht : TabOk P tab) {t : Nat}{x : Operand} (ho : o.op = .call { callee := .builtin .len,args := #[x],argTypes := #[t] }) (h : stepLen tab env H nx K t x) : Does P o c nx env H K :=
  Does.pure fun φ tmps w hs => by
    obtain ⟨i,h1,h⟩ := h
    rcases h with ⟨e,sz,l,h2,h3,h4⟩|⟨s,h2,h3,h4⟩|⟨n,e,h2,h4⟩
    · obtain ⟨a,cap,k1,_⟩ := h3.lies hs
      refine ⟨_,_, ?_,h4,.f (.v _)⟩
      simp [execOp,ho,resolve,invoke,builtin,Builtin.len_,k1,run_underlying (under_slice ht h1 h2),goInt]
    · refine ⟨_,_, ?_,h4,.f (.v _)⟩
      simp [execOp,ho,resolve,invoke,builtin,Builtin.len_,(ev_rep hs h3).v_inv,run_underlying (under_str ht h1 h2),goInt]
    · refine ⟨_,_, ?_,h4,.f (.v _)⟩
      simp [execOp,ho,resolve,invoke,builtin,Builtin.len_,run_underlying (under_arr ht h1 h2),goInt]
def stepIndexAddr (tab : Tab) (env : Env) (H : Heap) (nx : Nat) (K : PV → Nat → Heap → Prop) (t : Nat) (x ix : Operand) : Prop :=
  ∃ i e ie k q,tab t = some i ∧ tab e = some ie ∧ ev env ix = some (.f (.v (.int k q))) ∧ 0 ≤ q ∧
    ((∃ cl l y,i.kd = .slice e ∧ ev env x = some (.f (.sl ie.size cl l)) ∧ l[q.toNat]? = some y ∧ K (.f (.ro y)) nx H) ∨
     (∃ n lo hi wr l,i.kd = .slice e ∧ ev env x = some (.ref n lo hi) ∧ look H n = some (.buf wr ie.size l) ∧ q.toNat < (view lo hi l).length ∧ K (.ep n (lo + q.toNat) 0) nx H) ∨
     (∃ n off m,i.kd = .arr m e ∧ ev env x = some (.ptr n off) ∧ q < m ∧ K (.ptr n (off + q.toNat * ie.size)) nx H) ∨
     (∃ cs m,i.kd = .arr m e ∧ ev env x = some (.f (.ro (.agg cs))) ∧ q < m ∧ (q.toNat * ie.size) + ie.size ≤ cs.length ∧ ie.kd.agg = false ∧ ie.size = 1 ∧
        (partF false cs (q.toNat * ie.size) 1).isAgg = false ∧ K (.f (.ro (partF false cs (q.toNat * ie.size) 1))) nx H))
theorem exec_indexAddr {t : Nat}{x ix : Operand}{tmps : Array Value}{w : World}{k : IntKind}{q : Int}{r v : Value} (ho : o.op = .indexAddr t x ix)
    (hi : (act tmps).eval ix = .int k q) (hx : (act tmps).eval x = v) (hrun : (Instr.indexAt t v (.int k q)).run P w = .ok r w) : (execOp (act tmps).eval o).run P w = .ok (.value r) w := by
  simp only [execOp,ho,hi,hx]
  rw [Sem.run_bind,hrun]; rfl
theorem does_indexAddr (ht : TabOk P tab) {t : Nat}{x ix : Operand} (ho : o.op = .indexAddr t x ix) (h : stepIndexAddr tab env H nx K t x ix) : Does P o c nx env H K :=
  Does.pure fun φ tmps w hs => by
    obtain ⟨i,e,ie,k,q,h1,h2,h3,h4,h⟩ := h
    have hi := (ev_rep hs h3).v_inv
    have hqn : (q.toNat : Int) = q := Int.toNat_of_nonneg h4
    rcases h with ⟨cl,l,y,g1,g2,g3,g4⟩|⟨n,lo,hh,wr,l,g1,g2,g3,g4,g5⟩|⟨n,off,m,g1,g2,g3,g4⟩|⟨cs,m,g1,g2,g3,g4,g5,g6,g7,g8⟩
    · have hr := ev_rep hs g2
      generalize hv : (act tmps).eval x = v at hr
      have hu := under_slice ht h1 g1
      have hql : q.toNat < l.length := (List.getElem?_eq_some_iff.1 g3).1
      cases hr with
      | f hr =>
      cases hr with
      | slnil => simp at g3
      | slemp => simp at g3
      | sl _ _ _ b off cap val a1 a2 a3 a4 a5 =>
        refine ⟨_,.pointer (some ⟨b,off + q.toNat * ie.size,none⟩),exec_indexAddr ho hi hv ?_,g4,.f (.ro y b _ (fun j => val q.toNat j) (fun j d hd => ?_) (fun j d hd => a5 _ y j d g3 hd))⟩
        · simp [Instr.indexAt,asIntOf,run_underlying hu,run_size ht h2,add_plain,h4,show q < (l.length : Int) by omega]
        · exact a4 _ y j d g3 hd
    · have hr := ev_rep hs g2
      generalize hv : (act tmps).eval x = v at hr
      have hu := under_slice ht h1 g1
      obtain ⟨hnx,e1,e2,e3⟩ := hs.ok.obj n _ g3
      cases hr with
      | @refnil _ hz _ hnil hlen hh0 =>
        rw [e1] at hlen
        have : l = [] := List.eq_nil_of_length_eq_zero hlen
        subst this
        have hv0 : view 0 hh ([] : List FV) = [] := by cases hh <;> simp [view]
        rw [hv0] at g4
        simp at g4
      | @ref _ _ _ cap A hlt hnil b1 b2 b3 b4 b5 =>
        rw [e1] at b1 b2 b4 hv
        rw [view_length b2] at g4
        have hA := b5 (by omega)
        subst hA
        rw [e2] at hv
        refine ⟨_,.pointer (some ⟨(φ n).blk,(φ n).base + (lo + q.toNat) * (φ n).sz + 0,none⟩),exec_indexAddr ho hi hv ?_,g5,.ep hlt hnil (by rw [e1]; omega)⟩
        simp [Instr.indexAt,asIntOf,run_underlying hu,run_size ht h2,add_plain,h4,show q < ((hh.getD l.length - lo : Nat) : Int) by omega,e2,Nat.add_mul,Nat.add_assoc]
    · have hr := ev_rep hs g2
      generalize hv : (act tmps).eval x = v at hr
      have hu := under_arr ht h1 g1
      cases hr with
      | ptr hlt =>
        refine ⟨_,_,exec_indexAddr ho hi hv ?_,g4,.ptr hlt⟩
        simp [Instr.indexAt,asIntOf,run_underlying hu,run_size ht h2,add_plain,h4,g3,Instr.sureAddr]
    · have hr := ev_rep hs g2
      generalize hv : (act tmps).eval x = v at hr
      have hu := under_arr ht h1 g1
      cases hr with
      | f hr =>
      cases hr with
      | ro _ b o1 val a1 a2 =>
        have hlt : q.toNat * ie.size < cs.length := by omega
        have e : (partF false cs (q.toNat * ie.size) 1) = cs[q.toNat * ie.size] := by unfold partF; exact list_drop_head (by simp [hlt])
        have e2 : (cs[q.toNat * ie.size]).cells = [cs[q.toNat * ie.size]] := by rw [e] at g7; cases hq : cs[q.toNat * ie.size] <;> simp_all [FV.cells,FV.isAgg]
        refine ⟨_,.pointer (some ⟨b,o1 + q.toNat * ie.size,none⟩),exec_indexAddr ho hi hv ?_,g8, ?_⟩
        · simp [Instr.indexAt,asIntOf,run_underlying hu,run_size ht h2,add_plain,h4,g3,Instr.sureAddr]
        · rw [e]
          refine .f (.ro _ b _ (fun j => val (q.toNat * ie.size + j)) (fun j d hd => ?_) (fun j d hd => ?_))
          all_goals
            rw [e2] at hd
            have hj : j = 0 ∧ d = cs[q.toNat * ie.size] := by
              cases j with
              | zero => simp at hd; exact ⟨rfl,hd.symm⟩
              | succ j => simp at hd
            obtain ⟨rfl,rfl⟩ := hj
          · have := a1 (q.toNat * ie.size) cs[q.toNat * ie.size] (by simp [FV.cells,hlt])
            simpa using this
          · have := a2 (q.toNat * ie.size) cs[q.toNat * ie.size] (by simp [FV.cells,hlt])
            simpa using this
def stepIndex (tab : Tab) (env : Env) (H : Heap) (nx : Nat) (K : PV → Nat → Heap → Prop) (t : Nat) (x ix : Operand) : Prop :=
  ∃ i k q s b,tab t = some i ∧ i.kd = .str ∧ ev env ix = some (.f (.v (.int k q))) ∧ 0 ≤ q ∧ ev env x = some (.f (.v (.string s))) ∧ s[q.toNat]? = some b ∧ K (.f (.v (.int .u8 b.toNat))) nx H
theorem does_index (ht : TabOk P tab) {t : Nat}{x ix : Operand} (ho : o.op = .index t x ix) (h : stepIndex tab env H nx K t x ix) : Does P o c nx env H K :=
  Does.pure fun φ tmps w hs => by
    obtain ⟨i,k,q,s,b,h1,h2,h3,h4,h5,h6,h7⟩ := h
    refine ⟨_,_, ?_,h7,.f (.v _)⟩
    simp [execOp,ho,Instr.index,(ev_rep hs h3).v_inv,(ev_rep hs h5).v_inv,asIntOf,run_underlying (under_str ht h1 h2),h4,h6]
end
section
variable {P : Program}{tab : Tab}{c : Ctx}{nx : Nat}{env : Env}{H : Heap}{K : PV → Nat → Heap → Prop}{o : Oper}
theorem fold_set {off : Nat} : ∀ (l : List Value) (k : Nat) (cells : Array Value) (j : Nat),off + k + l.length ≤ cells.size →
    ((l.zipIdx k).foldl (fun cs (p : Value × Nat) => cs.setIfInBounds (off + p.2) p.1) cells)[j]? =
      if off + k ≤ j ∧ j < off + k + l.length then l[j - (off + k)]? else cells[j]?
  | [],k,cells,j,_ => by simp; intro h1 h2; omega
  | v :: l,k,cells,j,h => by
    simp only [List.zipIdx_cons,List.foldl_cons]
    simp only [List.length_cons] at h ⊢
    rw [fold_set l (k + 1) _ j (by simp; omega)]
    by_cases h1 : off + (k + 1) ≤ j ∧ j < off + (k + 1) + l.length
    · rw [if_pos h1,if_pos (by omega)]
      have : j - (off + k) = (j - (off + (k + 1))) + 1 := by omega
      rw [this,List.getElem?_cons_succ]
    · rw [if_neg h1,Array.getElem?_setIfInBounds]
      by_cases h2 : off + k = j
      · rw [if_pos h2,if_pos (by omega),if_pos (by omega)]
        have : j - (off + k) = 0 := by omega
        rw [this]; rfl
      · rw [if_neg h2,if_neg (by omega)]
theorem fold_set_size {off : Nat} : ∀ (l : List Value) (k : Nat) (cells : Array Value),((l.zipIdx k).foldl (fun cs (p : Value × Nat) => cs.setIfInBounds (off + p.2) p.1) cells).size = cells.size
  | [],k,cells => rfl
  | v :: l,k,cells => by simp only [List.zipIdx_cons,List.foldl_cons]; rw [fold_set_size l (k + 1)]; simp
def lay (cells : Array Value) (off : Nat) (v : Array Value) : Array Value := v.zipIdx.foldl (fun cs (c,j) => cs.setIfInBounds (off + j) c) cells
theorem lay_size (cells : Array Value) (off : Nat) (v : Array Value) : (lay cells off v).size = cells.size := by
  unfold lay
  rw [← Array.foldl_toList,Array.toList_zipIdx]
  exact fold_set_size v.toList 0 cells
theorem lay_get {cells : Array Value}{off : Nat}{v : Array Value} (h : off + v.size ≤ cells.size) (j : Nat) :
    (lay cells off v)[j]? = if off ≤ j ∧ j < off + v.size then v[j - off]? else cells[j]? := by
  unfold lay
  rw [← Array.foldl_toList,Array.toList_zipIdx]
  have := fold_set (off := off) v.toList 0 cells j (by simpa using h)
  simpa using this
theorem fill_cons {place : Nat → Option (Nat × Nat)}{cells : Array Value}{i off size : Nat}{v : Value}{rest : List (Nat × Value)} (hp : place i = some (off,size)) (hs : v.cells.size = size)
    (hl : off + size ≤ cells.size) : Instr.fill place cells ((i,v) :: rest) = Instr.fill place (lay cells off v.cells) rest := by
  simp only [Instr.fill,hp]
  rw [if_neg (by simp [hs]; omega)] <;> rfl
def PV.le (x y : PV) : Prop := ∀ (φ : Nat → Phys) nx w S v,Rep φ nx w S x v → Rep φ nx w S y v
def LeP : List PV → List PV → Prop
  | [],[] => True
  | x :: s,y :: t => PV.le x y ∧ LeP s t
  | _,_ => False
theorem LeP.refl : ∀ l : List PV,LeP l l
  | [] => trivial
  | x :: t => ⟨fun _ _ _ _ _ h => h,LeP.refl t⟩
theorem LeP.get : ∀ {a b : List PV},LeP a b → a.length = b.length ∧ ∀ (i : Nat) x y,a[i]? = some x → b[i]? = some y → PV.le x y
  | [],[],_ => ⟨rfl,fun i x y h => by simp at h⟩
  | x :: s,y :: t,h => by
    obtain ⟨k1,k2⟩ := LeP.get h.2
    refine ⟨by simp [k1],fun i u v hu hv => ?_⟩
    cases i with
    | zero => simp at hu hv; subst hu; subst hv; exact h.1
    | succ i => simp at hu hv; exact k2 i u v hu hv
  | [],y :: t,h => h.elim
  | x :: s,[],h => h.elim
def buildP (tab : Tab) (env : Env) (fs : List (Nat × Nat)) (C : List PV → Prop) : List (Nat × Operand) → List PV → Prop
  | [],cs => ∃ ds,LeP cs ds ∧ C ds
  | (q,x) :: r,cs => ∃ off ft it pv,fs[q]? = some (off,ft) ∧ tab ft = some it ∧ ev env x = some pv ∧ pv.storable = true ∧ pv.cells.length = it.size ∧ off + it.size ≤ cs.length ∧
      buildP tab env fs C r (splice cs off pv.cells)
def RepC (φ : Nat → Phys) (nx : Nat) (w : World) (S : Nat → Nat → Prop) (cs : List PV) (vs : Array Value) : Prop :=
  vs.size = cs.length ∧ ∀ (i : Nat) c,cs[i]? = some c → ∃ u,vs[i]? = some u ∧ one u = true ∧ Rep φ nx w S c u
theorem RepC.mkAgg {φ : Nat → Phys}{w : World}{S : Nat → Nat → Prop}{cs : List PV}{vs : Array Value} (h : RepC φ nx w S cs vs) : Rep φ nx w S (Pv.mkAgg cs) (.agg vs) := by
  refine Rep.mkAgg h.1 (fun i u hu => ?_) (fun i d u hd hu => ?_)
  · have hlt : i < cs.length := by rw [← h.1]; exact (Array.getElem?_eq_some_iff.1 hu).1
    obtain ⟨u',a,b,_⟩ := h.2 i cs[i] (by simp [hlt])
    rw [a] at hu; cases hu; exact b
  · obtain ⟨u',a,_,b⟩ := h.2 i d hd
    rw [a] at hu; cases hu; exact b
theorem RepC.lay {φ : Nat → Phys}{w : World}{S : Nat → Nat → Prop}{cs : List PV}{vs : Array Value} (h : RepC φ nx w S cs vs) {pv : PV}{v : Value} (hr : Rep φ nx w S pv v) (h1 : pv.storable = true)
    {off : Nat} (hl : off + pv.cells.length ≤ cs.length) : RepC φ nx w S (splice cs off pv.cells) (Pv.lay vs off v.cells) := by
  obtain ⟨c1,c2⟩ := hr.cells h1
  refine ⟨by rw [lay_size,splice_length hl,h.1],fun i d hd => ?_⟩
  rw [splice_get hl] at hd
  rw [lay_get (by rw [c1,h.1]; exact hl),c1]
  by_cases q1 : i < off
  · rw [if_pos q1] at hd
    rw [if_neg (by omega)]
    exact h.2 i d hd
  · rw [if_neg q1] at hd
    by_cases q2 : i < off + pv.cells.length
    · rw [if_pos q2] at hd
      rw [if_pos (by omega)]
      exact c2 _ d hd
    · rw [if_neg q2] at hd
      rw [if_neg (by omega)]
      exact h.2 i d hd
theorem fill_buildP (ht : TabOk P tab) {fs : List (Nat × Nat)}{C : List PV → Prop}{φ : Nat → Phys}{tmps : Array Value}{w : World} (hs : StΦ c nx env H φ tmps w) {place : Nat → Option (Nat × Nat)}
    (hpl : ∀ (q off ft : Nat) (it : TI),fs[q]? = some (off,ft) → tab ft = some it → place q = some (off,it.size)) :
    ∀ (parts : List (Nat × Operand)) (cs : List PV) (vs : Array Value),RepC φ nx w (SS c.So φ H) cs vs → buildP tab env fs C parts cs →
      ∃ cs' vs',Instr.fill place vs (parts.map fun p => (p.1,(act tmps).eval p.2)) = some vs' ∧ RepC φ nx w (SS c.So φ H) cs' vs' ∧ C cs'
  | [],cs,vs,h,hb => by
    obtain ⟨ds,hl,hc⟩ := hb
    obtain ⟨k1,k2⟩ := hl.get
    refine ⟨ds,vs,rfl,⟨by rw [h.1,k1],fun i d hd => ?_⟩,hc⟩
    have hlt : i < cs.length := by rw [k1]; exact (List.getElem?_eq_some_iff.1 hd).1
    obtain ⟨u,u1,u2,u3⟩ := h.2 i cs[i] (by simp [hlt])
    exact ⟨u,u1,u2,k2 i cs[i] d (by simp [hlt]) hd _ _ _ _ _ u3⟩
  | (q,x) :: r,cs,vs,h,hb => by
    obtain ⟨off,ft,it,pv,h1,h2,h3,h4,h5,h6,h7⟩ := hb
    have hr := ev_rep hs h3
    have hc := (hr.cells h4).1
    obtain ⟨cs',vs',k1,k2,k3⟩ := fill_buildP ht hs hpl r _ _ (h.lay hr h4 (by rw [h5]; exact h6)) h7
    refine ⟨cs',vs', ?_,k2,k3⟩
    rw [List.map_cons,fill_cons (hpl q off ft it h1 h2) (by rw [hc,h5]) (by rw [h.1]; exact h6)]
    exact k1
def stepBuild (tab : Tab) (env : Env) (H : Heap) (nx : Nat) (K : PV → Nat → Heap → Prop) (t : Nat) (parts : List (Nat × Operand)) : Prop :=
  (∃ i fs,tab t = some i ∧ i.kd = .struct fs ∧ (fs.all fun p => (tab p.2).isSome) = true ∧ buildP tab env fs (fun cs => K (mkAgg cs) nx H) parts (i.zero.map fun v => .f (.v v))) ∨
  (∃ i n e ie,tab t = some i ∧ i.kd = .arr n e ∧ tab e = some ie ∧ buildP tab env ((List.range n).map fun k => (k * ie.size,e)) (fun cs => K (mkAgg cs) nx H) parts (i.zero.map fun v => .f (.v v)))
theorem zero_repC (ht : TabOk P tab) {t : Nat}{i : TI} (h : tab t = some i) (φ : Nat → Phys) (nx : Nat) (w : World) (S : Nat → Nat → Prop) : RepC φ nx w S (i.zero.map fun v => .f (.v v)) i.zero.toArray := by
  refine ⟨by simp,fun j d hd => ?_⟩
  simp only [List.getElem?_map,Option.map_eq_some_iff] at hd
  obtain ⟨v,h1,rfl⟩ := hd
  exact ⟨v,by simpa using h1,(ht t i h).ones v (List.mem_of_getElem? h1),.f (.v v)⟩
theorem run_placesAny {F : List Field}{places : List (Nat × Nat)} (w : World) (h : ∀ (q : Nat) f,F[q]? = some f → ∃ n,(∀ w,(sizeOf f.type).run P w = .ok n w) ∧ places[q]? = some (f.offset,n)) (hl : places.length = F.length) :
    (F.mapM fun (f : Field) => do pure (f.offset,← sizeOf f.type)).run P w = .ok places w := by
  induction F generalizing places with
  | nil => cases places with
    | nil => simp
    | cons p q => simp at hl
  | cons f F ih =>
    cases places with
    | nil => simp at hl
    | cons p q =>
      obtain ⟨n,h1,h2⟩ := h 0 f rfl
      simp at h2; subst h2
      have := ih (places := q) (fun i g hg => by have := h (i + 1) g (by simpa using hg); simpa using this) (by simpa using hl)
      simp only [List.mapM_cons,Sem.run_bind,h1,Result.andThen_ok,Sem.run_pure,this]
theorem does_build (ht : TabOk P tab) {t : Nat}{parts : Array (Nat × Operand)} (ho : o.op = .build t parts) (h : stepBuild tab env H nx K t parts.toList) : Does P o c nx env H K :=
  Does.pure fun φ tmps w hs => by
    rcases h with ⟨i,fs,h1,h2,hall,h3⟩|⟨i,n,e,ie,h1,h2,he,h3⟩
    case inr =>
      have hu : P.underlying t = some (.array n e) := by have := (ht t i h1).under; rw [h2] at this; exact this
      obtain ⟨z,hz,hzc⟩ := zero_cells ht h1
      have hpl : ∀ (q off ft : Nat) (it : TI),((List.range n).map fun k => (k * ie.size,e))[q]? = some (off,ft) → tab ft = some it → (fun i => some (i * ie.size,ie.size) : Nat → Option (Nat × Nat)) q = some (off,it.size) := by
        intro q off ft it a b
        simp only [List.getElem?_map,Option.map_eq_some_iff,Prod.mk.injEq] at a
        obtain ⟨k,hk,rfl,rfl⟩ := a
        rw [List.getElem?_range (by have := (List.getElem?_eq_some_iff.1 hk).1; simpa using this)] at hk
        cases hk
        rw [he] at b; cases b; rfl
      obtain ⟨cs',vs',k1,k2,k3⟩ := fill_buildP ht hs hpl parts.toList _ _ (zero_repC ht h1 φ nx w _) h3
      refine ⟨_,.agg vs', ?_,k3,k2.mkAgg⟩
      simp only [execOp,ho,Instr.build]
      simp only [Sem.run_bind,hz,Result.andThen_ok,run_underlying hu,run_size ht he,hzc]
      have e : (parts.map fun (i,x) => (i,(act tmps).eval x)).toList = parts.toList.map fun p => (p.1,(act tmps).eval p.2) := by simp
      rw [e,k1] <;> rfl
    have hu := (ht t i h1).under
    rw [h2] at hu
    obtain ⟨F,u1,u2⟩ := hu
    obtain ⟨z,hz,hzc⟩ := zero_cells ht h1
    have hsz : ∀ p ∈ fs,∃ it,tab p.2 = some it := fun p hp => Option.isSome_iff_exists.1 (by simpa using List.all_eq_true.1 hall p hp)
    let places : List (Nat × Nat) := fs.map fun p => (p.1,((tab p.2).getD default).size)
    have hpl : ∀ (q off ft : Nat) (it : TI),fs[q]? = some (off,ft) → tab ft = some it → (places.toArray[·]?) q = some (off,it.size) := by
      intro q off ft it a b
      simp [places,a,b]
    obtain ⟨cs',vs',k1,k2,k3⟩ := fill_buildP ht hs hpl parts.toList _ _ (zero_repC ht h1 φ nx w _) h3
    refine ⟨_,.agg vs', ?_,k3,k2.mkAgg⟩
    have hm : (F.mapM fun (f : Field) => do pure (f.offset,← sizeOf f.type)).run P w = .ok places.toArray w := by
      rw [Array.mapM_eq_mapM_toList]
      rw [Sem.run_map]
      rw [run_placesAny (places := places) w (fun q f hf => ?_) (by simp [places,← u2])]
      · rfl
      · have hq : fs[q]? = some (f.offset,f.type) := by rw [← u2]; simp [hf]
        obtain ⟨it,hit⟩ := hsz _ (List.mem_of_getElem? hq)
        exact ⟨it.size,fun w => run_size ht hit w,by simp [places,hq,hit]⟩
    simp only [execOp,ho,Instr.build]
    simp only [Sem.run_bind,hz,Result.andThen_ok,run_underlying u1,hm,hzc]
    have e : (parts.map fun (i,x) => (i,(act tmps).eval x)).toList = parts.toList.map fun p => (p.1,(act tmps).eval p.2) := by simp
    rw [e,k1] <;> rfl
end
section
variable {P : Program}{tab : Tab}{c : Ctx}{nx : Nat}{env : Env}{H : Heap}{K : PV → Nat → Heap → Prop}{o : Oper}
theorem StΦ.freeze {φ : Nat → Phys}{tmps : Array Value}{w : World} (h : StΦ c nx env H φ tmps w) {n : Nat}{wr : Bool}{sz : Nat}{l : List FV} (hn : look H n = some (.buf wr sz l)) :
    StΦ c nx env (hput H n (.buf false sz l)) φ tmps w := by
  obtain ⟨hnx,e1,e2,e3⟩ := h.ok.obj n _ hn
  rcases e3 with ⟨hnil,hl⟩|⟨hnil,arr,ty,a1,a2,a3,a4,a5⟩
  · subst hl
    have hl : ∀ m o,look (hput H n (.buf false sz [])) m = some o → m ≠ n → look H m = some o := by
      intro m o hm hne
      unfold hput at hm
      rw [look_cons_ne _ _ (fun e => hne e.symm),look_drop_ne _ (fun e => hne e.symm)] at hm
      exact hm
    have hext : Ext w w (Own φ H) (Own φ (hput H n (.buf false sz []))) := by
      refine ⟨rfl,rfl,rfl,Nat.le_refl _,fun b hb _ => rfl,fun b off hb _ => rfl, ?_⟩
      rintro b off hlt ⟨m,o,h1,h2,h3⟩
      by_cases e : m = n
      · subst e; rw [hnil] at h2; cases h2
      · exact ⟨m,o,hl m o h1 e,h2,h3⟩
    refine h.next (fun _ _ => rfl) (Nat.le_refl _) ?_ hext
    refine ⟨fun m o hm => ?_,fun a b o1 o2 h1 h2 hne n1 n2 => ?_,fun m o hm hmn => ?_⟩
    · by_cases e : m = n
      · subst e; unfold hput at hm; rw [look_cons_same] at hm; cases hm
        exact ⟨hnx,e1,e2,.inl ⟨hnil,rfl⟩⟩
      · obtain ⟨k1,k2⟩ := h.ok.obj m o (hl m o hm e)
        exact ⟨k1,k2.step (fun _ _ => rfl) (Nat.le_refl _) hext.mono k1 fun _ => rfl⟩
    · by_cases ea : a = n
      · subst ea; rw [hnil] at n1; cases n1
      · by_cases eb : b = n
        · subst eb; rw [hnil] at n2; cases n2
        · exact h.ok.dis a b o1 o2 (hl a o1 h1 ea) (hl b o2 h2 eb) hne n1 n2
    · by_cases e : m = n
      · subst e; rw [hnil] at hmn; cases hmn
      · exact h.ok.out m o (hl m o hm e) hmn
  · have hw := h.write (n := n) (m := n) (nx' := nx) (o' := .buf false sz l) (p := φ n) (w' := w) hn hnil (.inl ⟨rfl,rfl,rfl⟩) hnil rfl
      (by cases wr <;> simp [lim]) rfl rfl rfl rfl (fun b hb => rfl) (fun q hq => rfl) (fun hm => by
        rw [upd_self] at hm ⊢
        exact ⟨e1,e2,.inr ⟨hnil,arr,ty,a1,a2,a3,a4,fun i x j d h1 h2 => by
          obtain ⟨u,b1,b2,b3⟩ := a5 i x j d h1 h2
          exact ⟨u,b1,b2,b3.step hm⟩⟩⟩)
    rw [upd_self] at hw
    exact hw
theorem StΦ.frozen_ref {φ : Nat → Phys}{tmps : Array Value}{w : World} (h : StΦ c nx env H φ tmps w) {n lo : Nat}{hi : Option Nat}{sz : Nat}{l : List FV} (hn : look H n = some (.buf false sz l))
    {v : Value} (hr : Rep φ nx w (SS c.So φ H) (.ref n lo hi) v) : RepF w (SS c.So φ H) (.sl sz false (view lo hi l)) v := by
  obtain ⟨hnx,e1,e2,e3⟩ := h.ok.obj n _ hn
  cases hr with
  | @refnil _ hz _ hnil hlen hh0 =>
    rw [e1] at hlen
    have : l = [] := List.eq_nil_of_length_eq_zero hlen
    subst this
    have hv0 : view 0 hi ([] : List FV) = [] := by cases hi <;> simp [view]
    rw [hv0]; exact .slnil _ _
  | @ref _ _ _ cap A hlt hnil b1 b2 b3 b4 b5 =>
    rcases e3 with ⟨e3,_⟩|⟨_,arr,ty,a1,a2,a3,a4,a5⟩
    · rw [hnil] at e3; cases e3
    rw [e1] at b1 b2 b4 ⊢
    have hvl := view_length (lo := lo) b2
    by_cases hc : cap = 0
    · have hempty : view lo hi l = [] := List.eq_nil_of_length_eq_zero (by rw [hvl]; omega)
      have h0 : hi.getD l.length - lo = 0 := by omega
      rw [h0,hempty,hc]
      exact .slemp _ _ A
    · have hA := b5 hc
      subst hA
      rw [← hvl]
      have hget : ∀ (i : Nat) x (j : Nat) d,(view lo hi l)[i]? = some x → x.cells[j]? = some d →
          ∃ u,arr[(φ n).base + (lo + i) * sz + j]? = some u ∧ one u = true ∧ RepF w (SS c.So φ H) d u := by
        intro i x j d h1 h2
        have hi' : i < (view lo hi l).length := (List.getElem?_eq_some_iff.1 h1).1
        rw [view_get b2 hi'] at h1
        exact a5 _ x j d h1 h2
      refine .sl sz false _ _ _ cap (fun i j => (arr[(φ n).base + (lo + i) * sz + j]?).getD undef) (by rw [hvl]; omega) (fun e => by cases e) (fun i x hx => ?_) (fun i x j d h1 h2 => ?_) (fun i x j d h1 h2 => ?_)
      · have hi' : i < (view lo hi l).length := (List.getElem?_eq_some_iff.1 hx).1
        rw [view_get b2 hi'] at hx
        exact a4 _ x hx
      · obtain ⟨u,k1,k2,k3⟩ := hget i x j d h1 h2
        have hidx : (φ n).base + lo * (φ n).sz + i * sz + j = (φ n).base + (lo + i) * sz + j := by rw [e2,Nat.add_mul]; omega
        rw [hidx]
        refine ⟨by rw [cell_heap a1,k1]; rfl, ?_,by rw [k1]; exact k2⟩
        have hi' : i < (view lo hi l).length := (List.getElem?_eq_some_iff.1 h1).1
        rw [view_get b2 hi'] at h1
        have hil : lo + i < l.length := (List.getElem?_eq_some_iff.1 h1).1
        have hjs : j < sz := by rw [← a4 _ x h1]; exact (List.getElem?_eq_some_iff.1 h2).1
        have hoff : (φ n).base + (lo + i) * sz + j < (φ n).base + l.length * sz := by
          have := Nat.mul_le_mul_right sz (show lo + i + 1 ≤ l.length by omega)
          rw [Nat.add_mul] at this; omega
        rintro (hs|⟨m,o',m1,m2,m3,m4⟩)
        · exact h.ok.out n _ hn hnil _ hs
        · by_cases e : m = n
          · subst e; rw [hn] at m1; cases m1
            simp only [lim] at m4; omega
          · exact h.ok.dis m n o' _ m1 hn e m2 hnil m3
      · obtain ⟨u,k1,k2,k3⟩ := hget i x j d h1 h2
        rw [k1]; exact k3
end
def frz1 (H : Heap) : PV → Option (FV × Heap)
  | .f y => some (y,H)
  | .ref n lo hi => match look H n with
    | some (.buf _ sz l) => some (.sl sz false (view lo hi l),hput H n (.buf false sz l))
    | _ => none
  | _ => none
def frzL (H : Heap) : List PV → Option (List FV × Heap)
  | [] => some ([],H)
  | x :: t => match frz1 H x with
    | some (y,H1) => match frzL H1 t with
      | some (ys,H2) => some (y :: ys,H2)
      | none => none
    | none => none
def frz (H : Heap) : PV → Option (FV × Heap)
  | .agg cs => match frzL H cs with
    | some (l,H') => some (.agg l,H')
    | none => none
  | x => frz1 H x
def frzs (H : Heap) : List PV → Option (List FV × Heap)
  | [] => some ([],H)
  | x :: t => match frz H x with
    | some (y,H1) => match frzs H1 t with
      | some (ys,H2) => some (y :: ys,H2)
      | none => none
    | none => none
def evs (env : Env) : List Operand → Option (List PV)
  | [] => some []
  | x :: t => match ev env x with
    | some y => match evs env t with
      | some ys => some (y :: ys)
      | none => none
    | none => none
section
variable {P : Program}{tab : Tab}{c : Ctx}{nx : Nat}{env : Env}{H H' : Heap}{K : PV → Nat → Heap → Prop}{o : Oper}
def Less (c : Ctx) (φ : Nat → Phys) (w : World) (H H' : Heap) : Prop := Mono w (SS c.So φ H) w (SS c.So φ H')
theorem look_hput_same (H : Heap) (n : Nat) (o : Obj) : look (hput H n o) n = some o := look_cons_same _ _ _
theorem look_hput_ne (H : Heap) {n m : Nat} (o : Obj) (h : n ≠ m) : look (hput H n o) m = look H m := by
  unfold hput; rw [look_cons_ne _ _ h,look_drop_ne _ h]
theorem own_freeze {φ : Nat → Phys}{n : Nat}{wr : Bool}{sz : Nat}{l : List FV} (hn : look H n = some (.buf wr sz l)) {b off : Nat} (h : Own φ (hput H n (.buf false sz l)) b off) : Own φ H b off := by
  obtain ⟨m,o,h1,h2,h3,h4⟩ := h
  by_cases e : n = m
  · subst e
    rw [look_hput_same] at h1; cases h1
    refine ⟨n,_,hn,h2,h3,Nat.le_trans ?_ h4⟩
    cases wr <;> simp [lim]
  · rw [look_hput_ne _ _ e] at h1
    exact ⟨m,o,h1,h2,h3,h4⟩
theorem frz1_ok {φ : Nat → Phys}{tmps : Array Value}{w : World} (hs : StΦ c nx env H φ tmps w) {pv : PV}{y : FV} (hf : frz1 H pv = some (y,H')) :
    StΦ c nx env H' φ tmps w ∧ Less c φ w H H' ∧ ∀ v,Rep φ nx w (SS c.So φ H) pv v → RepF w (SS c.So φ H') y v := by
  cases pv with
  | f x =>
    simp only [frz1,Option.some.injEq,Prod.mk.injEq] at hf
    obtain ⟨rfl,rfl⟩ := hf
    exact ⟨hs,Mono.refl _ _,fun v hr => by cases hr with|f h => exact h⟩
  | ref n lo hi =>
    simp only [frz1] at hf
    split at hf
    · rename_i wr sz l hl
      simp only [Option.some.injEq,Prod.mk.injEq] at hf
      obtain ⟨rfl,rfl⟩ := hf
      have hm : Less c φ w H (hput H n (.buf false sz l)) := by
        intro b off u hc hS
        refine ⟨hc, ?_⟩
        rintro (h|h)
        · exact hS (.inl h)
        · exact hS (.inr (own_freeze hl h))
      have hs' := hs.freeze hl
      exact ⟨hs',hm,fun v hr => hs'.frozen_ref (look_hput_same _ _ _) (hr.step (fun _ _ => rfl) (Nat.le_refl _) hm)⟩
    · cases hf
  | _ => simp [frz1] at hf
theorem frzL_ok {φ : Nat → Phys}{tmps : Array Value}{w : World} : ∀ {cs : List PV}{l : List FV}{H H' : Heap},StΦ c nx env H φ tmps w → frzL H cs = some (l,H') →
    StΦ c nx env H' φ tmps w ∧ Less c φ w H H' ∧ l.length = cs.length ∧ ∀ (i : Nat) d v,cs[i]? = some d → Rep φ nx w (SS c.So φ H) d v → ∃ y,l[i]? = some y ∧ RepF w (SS c.So φ H') y v
  | [],l,H,H',hs,hf => by
    simp only [frzL,Option.some.injEq,Prod.mk.injEq] at hf
    obtain ⟨rfl,rfl⟩ := hf
    exact ⟨hs,Mono.refl _ _,rfl,fun i d v h => by simp at h⟩
  | x :: t,l,H,H',hs,hf => by
    simp only [frzL] at hf
    split at hf
    · rename_i y H1 h1
      split at hf
      · rename_i ys H2 h2
        simp only [Option.some.injEq,Prod.mk.injEq] at hf
        obtain ⟨rfl,rfl⟩ := hf
        obtain ⟨a1,a2,a3⟩ := frz1_ok hs h1
        obtain ⟨b1,b2,b3,b4⟩ := frzL_ok a1 h2
        refine ⟨b1,a2.trans b2,by simp [b3],fun i d v hd hr => ?_⟩
        cases i with
        | zero => simp at hd; subst hd; exact ⟨y,rfl,(a3 v hr).step b2⟩
        | succ i => simpa using b4 i d v (by simpa using hd) (hr.step (fun _ _ => rfl) (Nat.le_refl _) a2)
      · cases hf
    · cases hf
theorem frz_ok {φ : Nat → Phys}{tmps : Array Value}{w : World} (hs : StΦ c nx env H φ tmps w) {pv : PV}{y : FV} (hf : frz H pv = some (y,H')) :
    StΦ c nx env H' φ tmps w ∧ Less c φ w H H' ∧ ∀ v,Rep φ nx w (SS c.So φ H) pv v → RepF w (SS c.So φ H') y v := by
  cases pv with
  | agg cs =>
    simp only [frz] at hf
    split at hf
    · rename_i l H1 h1
      simp only [Option.some.injEq,Prod.mk.injEq] at hf
      obtain ⟨rfl,rfl⟩ := hf
      obtain ⟨b1,b2,b3,b4⟩ := frzL_ok hs h1
      refine ⟨b1,b2,fun v hr => ?_⟩
      cases hr with
      | agg _ vs e1 e2 e3 =>
        refine .agg l vs (by rw [e1,b3]) e2 fun i d u hd hu => ?_
        have hlt : i < cs.length := by rw [← b3]; exact (List.getElem?_eq_some_iff.1 hd).1
        obtain ⟨y,k1,k2⟩ := b4 i cs[i] u (by simp [hlt]) (e3 i _ u (by simp [hlt]) hu)
        rw [k1] at hd; cases hd; exact k2
    · cases hf
  | f x => exact frz1_ok hs hf
  | ref n lo hi => exact frz1_ok hs hf
  | ptr n off => exact frz1_ok hs hf
  | ep n i off => exact frz1_ok hs hf
  | tup xs => exact frz1_ok hs hf
  | clo fn caps => exact frz1_ok hs hf
theorem frzs_ok {φ : Nat → Phys}{tmps : Array Value}{w : World} : ∀ {cs : List PV}{l : List FV}{H H' : Heap},StΦ c nx env H φ tmps w → frzs H cs = some (l,H') →
    StΦ c nx env H' φ tmps w ∧ Less c φ w H H' ∧ l.length = cs.length ∧ ∀ (i : Nat) d v,cs[i]? = some d → Rep φ nx w (SS c.So φ H) d v → ∃ y,l[i]? = some y ∧ RepF w (SS c.So φ H') y v
  | [],l,H,H',hs,hf => by
    simp only [frzs,Option.some.injEq,Prod.mk.injEq] at hf
    obtain ⟨rfl,rfl⟩ := hf
    exact ⟨hs,Mono.refl _ _,rfl,fun i d v h => by simp at h⟩
  | x :: t,l,H,H',hs,hf => by
    simp only [frzs] at hf
    split at hf
    · rename_i y H1 h1
      split at hf
      · rename_i ys H2 h2
        simp only [Option.some.injEq,Prod.mk.injEq] at hf
        obtain ⟨rfl,rfl⟩ := hf
        obtain ⟨a1,a2,a3⟩ := frz_ok hs h1
        obtain ⟨b1,b2,b3,b4⟩ := frzs_ok a1 h2
        refine ⟨b1,a2.trans b2,by simp [b3],fun i d v hd hr => ?_⟩
        cases i with
        | zero => simp at hd; subst hd; exact ⟨y,rfl,(a3 v hr).step b2⟩
        | succ i => simpa using b4 i d v (by simpa using hd) (hr.step (fun _ _ => rfl) (Nat.le_refl _) a2)
      · cases hf
    · cases hf
theorem evs_get {φ : Nat → Phys}{tmps : Array Value}{w : World} (hs : StΦ c nx env H φ tmps w) : ∀ {xs : List Operand}{ys : List PV},evs env xs = some ys → ys.length = xs.length ∧
    ∀ (i : Nat) y,ys[i]? = some y → ∃ x,xs[i]? = some x ∧ Rep φ nx w (SS c.So φ H) y ((act tmps).eval x)
  | [],ys,h => by simp only [evs,Option.some.injEq] at h; subst h; exact ⟨rfl,fun i y hy => by simp at hy⟩
  | x :: t,ys,h => by
    simp only [evs] at h
    split at h
    · rename_i y hy
      split at h
      · rename_i zs hz
        simp only [Option.some.injEq] at h
        subst h
        obtain ⟨a,b⟩ := evs_get hs hz
        refine ⟨by simp [a],fun i q hq => ?_⟩
        cases i with
        | zero => simp at hq; subst hq; exact ⟨x,rfl,ev_rep hs hy⟩
        | succ i => simpa using b i q (by simpa using hq)
      · cases h
    · cases h
def FV.okay (sz : Nat) (y : FV) : Bool := (y.isAgg || y.one) && y.cells.length == sz
theorem RepF.cells {w : World}{S : Nat → Nat → Prop}{y : FV}{v : Value}{sz : Nat} (h : RepF w S y v) (h1 : y.okay sz = true) :
    v.cells.size = sz ∧ ∀ (j : Nat) d,y.cells[j]? = some d → ∃ u,v.cells[j]? = some u ∧ Pv.one u = true ∧ RepF w S d u := by
  simp only [FV.okay,Bool.and_eq_true,beq_iff_eq] at h1
  have hst : (PV.f y).storable = true := by cases y <;> simp_all [PV.storable,PV.one,FV.isAgg,FV.one]
  obtain ⟨a,b⟩ := (Rep.f (φ := fun _ => default) (nx := 0) h).cells hst
  have hc : (PV.f y).cells = y.cells.map .f := by cases y <;> rfl
  rw [hc] at a b
  refine ⟨by rw [a]; simpa using h1.2,fun j d hd => ?_⟩
  obtain ⟨u,b1,b2,b3⟩ := b j (.f d) (by simp [hd])
  exact ⟨u,b1,b2,by cases b3 with|f h => exact h⟩
def flat (vs : List Value) : List Value := vs.flatMap fun v => v.cells.toList
theorem flat_get {sz : Nat} : ∀ (vs : List Value),(∀ v ∈ vs,v.cells.size = sz) → (flat vs).length = vs.length * sz ∧ ∀ (i j : Nat),i < vs.length → j < sz → (flat vs)[i * sz + j]? = (vs[i]?).bind fun v => v.cells[j]?
  | [],_ => ⟨by simp [flat],fun i j h => by simp at h⟩
  | v :: vs,h => by
    obtain ⟨a,b⟩ := flat_get vs (fun x hx => h x (by simp [hx]))
    have hv := h v (by simp)
    have e : flat (v :: vs) = v.cells.toList ++ flat vs := rfl
    rw [e]
    refine ⟨by simp [a,hv,Nat.add_mul]; omega,fun i j hi hj => ?_⟩
    cases i with
    | zero =>
      rw [List.getElem?_append_left (by simp [hv]; omega)]
      simp
    | succ i =>
      rw [List.getElem?_append_right (by simp [hv,Nat.add_mul]; omega)]
      have : (i + 1) * sz + j - v.cells.toList.length = i * sz + j := by simp [hv,Nat.add_mul]; omega
      rw [this,b i j (by simpa using hi) hj]
      simp
theorem fill_flat {sz : Nat}{place : Nat → Option (Nat × Nat)} (hp : ∀ i,place i = some (i * sz,sz)) : ∀ (vs : List Value) (k : Nat) (cells : Array Value),(∀ v ∈ vs,v.cells.size = sz) → (k + vs.length) * sz ≤ cells.size →
    ∃ cells',Instr.fill place cells ((vs.zipIdx k).map fun p => (p.2,p.1)) = some cells' ∧ cells'.size = cells.size ∧
      (∀ (q : Nat),q < k * sz → cells'[q]? = cells[q]?) ∧ (∀ (q : Nat),k * sz ≤ q → q < (k + vs.length) * sz → cells'[q]? = (flat vs)[q - k * sz]?)
  | [],k,cells,_,_ => ⟨cells,rfl,rfl,fun _ _ => rfl,fun q h1 h2 => by simp at h2; omega⟩
  | v :: vs,k,cells,h,hl => by
    have hv := h v (by simp)
    simp only [List.length_cons] at hl
    have e1 : (k + (vs.length + 1)) * sz = k * sz + sz + vs.length * sz := by rw [Nat.add_mul,Nat.add_mul]; omega
    have e2 : (k + 1) * sz = k * sz + sz := by rw [Nat.add_mul]; omega
    obtain ⟨cells',a1,a2,a3,a4⟩ := fill_flat hp vs (k + 1) (lay cells (k * sz) v.cells) (fun x hx => h x (by simp [hx])) (by rw [lay_size,Nat.add_mul,e2]; omega)
    refine ⟨cells', ?_,by rw [a2,lay_size],fun q hq => ?_,fun q h1 h2 => ?_⟩
    · simp only [List.zipIdx_cons,List.map_cons]
      rw [fill_cons (hp k) hv (by omega)]
      exact a1
    · rw [a3 q (by omega),lay_get (by rw [hv]; omega),if_neg (by omega)]
    · have ef : flat (v :: vs) = v.cells.toList ++ flat vs := rfl
      simp only [List.length_cons] at h2
      rw [ef]
      by_cases hq : q < k * sz + sz
      · rw [a3 q (by omega),lay_get (by rw [hv]; omega),if_pos (by rw [hv]; omega),List.getElem?_append_left (by simp [hv]; omega)]
        simp
      · rw [a4 q (by omega) (by rw [Nat.add_mul,e2]; omega),List.getElem?_append_right (by simp [hv]; omega)]
        congr 1
        simp [hv]; omega
theorem StΦ.newBuf {φ : Nat → Phys}{tmps : Array Value}{w w' : World} (hs : StΦ c nx env H φ tmps w) {sz cap : Nat}{ys : List FV}{arr : Array Value}{e : Nat}
    (hh : w'.heap = w.heap.push (.cells arr e)) (ho : w'.os = w.os) (ht : w'.tape = w.tape) (hu : w'.output = w.output)
    (hcap : ys.length ≤ cap) (harr : cap * sz ≤ arr.size) (hl : ∀ (i : Nat) y,ys[i]? = some y → y.cells.length = sz)
    (hr : ∀ (i : Nat) y (j : Nat) d,ys[i]? = some y → y.cells[j]? = some d → ∃ u,arr[i * sz + j]? = some u ∧ one u = true ∧ RepF w (SS c.So φ H) d u) :
    StΦ c (nx + 1) env ((nx,.buf true sz ys) :: H) (upd φ nx ⟨w.heap.size,0,cap,ys.length,sz,false⟩) tmps w' ∧
      ∀ S,Rep (upd φ nx ⟨w.heap.size,0,cap,ys.length,sz,false⟩) (nx + 1) w' S (.ref nx 0 none) (.slice (some ⟨w.heap.size,0,none⟩) ys.length cap) := by
  refine ⟨hs.push hh ho ht hu rfl fun hm => ?_,fun S => ?_⟩
  · simp only [SatO,upd_same]
    refine ⟨trivial,trivial,.inr ⟨trivial,arr,e,by rw [hh]; simp,by simpa using harr,hcap,hl,fun i x j d h1 h2 => ?_⟩⟩
    obtain ⟨u,a1,a2,a3⟩ := hr i x j d h1 h2
    exact ⟨u,by simpa using a1,a2,a3.step hm⟩
  · have := Rep.ref (φ := upd φ nx ⟨w.heap.size,0,cap,ys.length,sz,false⟩) (nx := nx + 1) (w := w') (S := S) (n := nx) (lo := 0) (hi := none) (cap := cap) (A := ⟨w.heap.size,0,none⟩)
      (Nat.lt_succ_self _) (by rw [upd_same]) (Nat.zero_le _) (by simp) (by rw [upd_same]; simp) (by rw [upd_same]; exact hcap) (fun _ => by rw [upd_same]; simp)
    simpa [upd_same] using this
def stepBuildSlice (tab : Tab) (env : Env) (H : Heap) (nx : Nat) (K : PV → Nat → Heap → Prop) (t len : Nat) (parts : List (Nat × Operand)) : Prop :=
  ∃ i e ie ps ys H',tab t = some i ∧ i.kd = .slice e ∧ tab e = some ie ∧ ie.size ≠ 0 ∧ len * ie.size ≤ 16777216 ∧ parts.map (·.1) = List.range len ∧
    evs env (parts.map (·.2)) = some ps ∧ frzs H ps = some (ys,H') ∧ (ys.all (·.okay ie.size)) = true ∧ K (.ref nx 0 none) (nx + 1) ((nx,.buf true ie.size ys) :: H')
theorem does_buildSlice (ht : TabOk P tab) {t len : Nat}{parts : Array (Nat × Operand)} (ho : o.op = .buildSlice t len parts) (h : stepBuildSlice tab env H nx K t len parts.toList) : Does P o c nx env H K :=
  Does.value fun φ tmps w hs => by
    obtain ⟨i,e,ie,ps,ys,H',h1,h2,h3,h4,h5,h6,h7,h8,h9,h10⟩ := h
    have hu := under_slice ht h1 h2
    obtain ⟨z,hz,hzc⟩ := zero_cells ht h3
    obtain ⟨a1,a2⟩ := evs_get hs h7
    obtain ⟨b1,b2,b3,b4⟩ := frzs_ok hs h8
    have hlen : parts.toList.length = len := by have := congrArg List.length h6; simpa using this
    have hpl : ps.length = len := by rw [a1]; simpa using hlen
    let vs : List Value := parts.toList.map fun p => (act tmps).eval p.2
    have hvl : vs.length = len := by simp [vs]; simpa using hlen
    have hys : ∀ (i : Nat) y,ys[i]? = some y → ∃ v,vs[i]? = some v ∧ RepF w (SS c.So φ H') y v := by
      intro i y hy
      have hlt : i < ps.length := by rw [← b3]; exact (List.getElem?_eq_some_iff.1 hy).1
      obtain ⟨x,k1,k2⟩ := a2 i ps[i] (by simp [hlt])
      obtain ⟨y',k3,k4⟩ := b4 i ps[i] _ (by simp [hlt]) k2
      rw [k3] at hy; cases hy
      refine ⟨(act tmps).eval x, ?_,k4⟩
      simp only [List.getElem?_map,Option.map_eq_some_iff] at k1
      obtain ⟨p,p1,p2⟩ := k1
      simp [vs,p1,p2]
    have hok : ∀ (i : Nat) y,ys[i]? = some y → y.okay ie.size = true := fun i y hy => List.all_eq_true.1 h9 y (List.mem_of_getElem? hy)
    have hsz : ∀ v ∈ vs,v.cells.size = ie.size := by
      intro v hv
      obtain ⟨q,hq⟩ := List.getElem?_of_mem hv
      have hlt : q < ys.length := by rw [b3,hpl,← hvl]; exact (List.getElem?_eq_some_iff.1 hq).1
      obtain ⟨v',k1,k2⟩ := hys q ys[q] (by simp [hlt])
      rw [k1] at hq; cases hq
      exact (k2.cells (hok q _ (by simp [hlt]))).1
    have hparts : (parts.map fun (i,x) => (i,(act tmps).eval x)).toList = (vs.zipIdx 0).map fun p => (p.2,p.1) := by
      apply List.ext_getElem?
      intro q
      simp only [Array.toList_map,List.getElem?_map,List.getElem?_zipIdx,vs]
      cases hq : parts.toList[q]? with
      | none => simp [hq]
      | some p =>
        have : (parts.toList.map (·.1))[q]? = some p.1 := by simp [hq]
        rw [h6] at this
        have hlt : q < len := by rw [← hlen]; exact (List.getElem?_eq_some_iff.1 hq).1
        simp [hlt] at this
        simp [hq,this]
    obtain ⟨cells',f1,f2,f3,f4⟩ := fill_flat (sz := ie.size) (place := fun i => some (i * ie.size,ie.size)) (fun i => rfl) vs 0 ((Array.range (len * ie.size)).map (z.cells[· % z.cells.size]!)) hsz (by simp [hvl])
    have hflat := flat_get vs hsz
    obtain ⟨n1,n2⟩ := b1.newBuf (w' := w.alloc (.cells cells' e)) (sz := ie.size) (cap := len) (ys := ys) (arr := cells') (e := e) rfl rfl rfl rfl (by rw [b3,hpl]; exact Nat.le_refl _) (by rw [f2]; simp)
      (fun i y hy => by have := hok i y hy; simp only [FV.okay,Bool.and_eq_true,beq_iff_eq] at this; exact this.2)
      (fun i y j d hy hd => by
        obtain ⟨v,k1,k2⟩ := hys i y hy
        have hi : i < vs.length := (List.getElem?_eq_some_iff.1 k1).1
        obtain ⟨c1,c2⟩ := k2.cells (hok i y hy)
        obtain ⟨u,u1,u2,u3⟩ := c2 j d hd
        have hj : j < ie.size := by rw [← c1]; exact (Array.getElem?_eq_some_iff.1 u1).1
        refine ⟨u, ?_,u2,u3⟩
        have hlt : i * ie.size + j < (0 + vs.length) * ie.size := by
          have := Nat.mul_le_mul_right ie.size (show i + 1 ≤ vs.length by omega)
          rw [Nat.add_mul] at this; simp; omega
        rw [f4 _ (by simp) hlt]
        simp only [Nat.zero_mul,Nat.sub_zero]
        rw [hflat.2 i j hi hj,k1]
        exact u1)
    have hyl : ys.length = len := by rw [b3,hpl]
    refine ⟨_,_,_,_,_,_, ?_,h10,n1,n2 _⟩
    simp only [execOp,ho,Instr.buildSlice]
    simp only [Sem.run_bind,run_underlying hu,Result.andThen_ok,run_size ht h3,hparts]
    rw [if_neg (by omega)]
    rw [hyl]
    by_cases hl0 : len * ie.size = 0
    · have hl1 : len = 0 := by rcases Nat.mul_eq_zero.1 hl0 with h|h; exact h; exact absurd h h4
      have hvs : vs = [] := List.eq_nil_of_length_eq_zero (by rw [hvl,hl1])
      have hc0 : cells' = #[] := by apply Array.eq_empty_of_size_eq_zero; rw [f2]; simp [hl1]
      subst hl1
      simp [hvs,Instr.fill,newRow,hc0]
      congr 2
      simp
    · rw [if_neg hl0]
      simp only [Sem.run_bind,hz,Result.andThen_ok,Sem.run_pure,f1,newRow,run_newObj]
      rfl
def stepMakeSlice (tab : Tab) (env : Env) (H : Heap) (nx : Nat) (K : PV → Nat → Heap → Prop) (t : Nat) (x y : Operand) : Prop :=
  ∃ i e ie k k2 q r,tab t = some i ∧ i.kd = .slice e ∧ tab e = some ie ∧ ie.size ≠ 0 ∧ ev env x = some (.f (.v (.int k q))) ∧ ev env y = some (.f (.v (.int k2 r))) ∧ 0 ≤ q ∧ q ≤ r ∧
    (ie.bytes : Int) * r ≤ 281474976710656 ∧ r ≤ 9223372036854775807 ∧
    K (.ref nx 0 none) (nx + 1) ((nx,.buf true ie.size (List.replicate q.toNat (if ie.kd.agg then .agg (ie.zero.map .v) else .v (ie.zero.headD undef)))) :: H)
theorem does_makeSlice (ht : TabOk P tab) {t : Nat}{x y : Operand} (ho : o.op = .makeSlice t x y) (hone : ∀ e ie,tab e = some ie → ie.kd.agg = false → ie.size = 1) (h : stepMakeSlice tab env H nx K t x y) : Does P o c nx env H K :=
  Does.value fun φ tmps w hs => by
    obtain ⟨i,e,ie,k,k2,q,r,h1,h2,h3,h4,h5,h6,h7,h8,h9,h10,h11⟩ := h
    have hu := under_slice ht h1 h2
    have e1 := (ev_rep hs h5).v_inv
    have e2 := (ev_rep hs h6).v_inv
    obtain ⟨ti,z,z1,z2,z3,z4,z5,z6⟩ := (ht e ie h3).info
    have hzl := (ht e ie h3).len
    have hrun := run_make (P := P) w t e ti z hu z1 z4 k k2 q r h7 h8 (by rw [z3]; exact h9) h10
    have hcell : ∀ (j : Nat),j < r.toNat * ie.size → (madeCells z.cells (r.toNat * ti.size))[j]? = some (ie.zero[j % ie.size]'(by rw [hzl]; exact Nat.mod_lt _ (by omega))) := by
      intro j hj
      have hm : j % ie.size < ie.zero.length := by rw [hzl]; exact Nat.mod_lt _ (by omega)
      simp [madeCells,z2,hj,z5,hzl]
      rw [List.getElem?_eq_getElem hm]; rfl
    obtain ⟨n1,n2⟩ := hs.newBuf (w' := w.alloc (.cells (madeCells z.cells (r.toNat * ti.size)) e)) (sz := ie.size) (cap := r.toNat)
      (ys := List.replicate q.toNat (if ie.kd.agg then .agg (ie.zero.map .v) else .v (ie.zero.headD undef))) (arr := madeCells z.cells (r.toNat * ti.size)) (e := e) rfl rfl rfl rfl
      (by simp; omega) (by simp [size_madeCells,z2])
      (fun i y hy => by
        rw [List.getElem?_replicate] at hy
        split at hy
        · cases hy
          cases ha : ie.kd.agg with
          | true => simp [FV.cells,hzl]
          | false => simp [FV.cells,hone e ie h3 ha]
        · cases hy)
      (fun i y j d hy hd => by
        rw [List.getElem?_replicate] at hy
        split at hy
        · rename_i hlt
          cases hy
          have hj : j < ie.size ∧ d = .v (ie.zero.getD j undef) := by
            cases ha : ie.kd.agg with
            | true =>
              simp only [ha,if_true,FV.cells,List.getElem?_map,Option.map_eq_some_iff] at hd
              obtain ⟨v,v1,v2⟩ := hd
              refine ⟨by rw [← hzl]; exact (List.getElem?_eq_some_iff.1 v1).1, ?_⟩
              rw [← v2,List.getD_eq_getElem?_getD,v1]; rfl
            | false =>
              simp only [ha,Bool.false_eq_true,if_false,FV.cells] at hd
              cases j with
              | zero =>
                simp at hd
                refine ⟨by omega, ?_⟩
                rw [← hd,List.getD_eq_getElem?_getD]; simp [List.head?_eq_getElem?]
              | succ j => simp at hd
          obtain ⟨hj,rfl⟩ := hj
          have hidx : i * ie.size + j < r.toNat * ie.size := by
            have := Nat.mul_le_mul_right ie.size (show i + 1 ≤ r.toNat by omega)
            rw [Nat.add_mul] at this; omega
          have hmod : (i * ie.size + j) % ie.size = j := by rw [Nat.mul_comm,Nat.mul_add_mod]; exact Nat.mod_eq_of_lt hj
          have hjl : j < ie.zero.length := by omega
          refine ⟨ie.zero[j],by rw [hcell _ hidx]; simp [hmod],(ht e ie h3).ones _ (by simp), ?_⟩
          have : ie.zero.getD j undef = ie.zero[j] := by simp [List.getD_eq_getElem?_getD,hjl]
          rw [this]; exact .v _
        · cases hy)
    rw [List.length_replicate] at n1 n2
    refine ⟨_,_,_,_,_,_, ?_,h11,n1,n2 _⟩
    simp only [execOp,ho,e1,e2]
    rw [Sem.run_bind,hrun]; rfl
end
section
variable {P : Program}{tab : Tab}{c : Ctx}{nx : Nat}{env : Env}{H H' : Heap}{K : PV → Nat → Heap → Prop}{o : Oper}
def bound (env : Env) (x : Option Operand) (d : Nat) (n : Nat) : Prop :=
  match x with
  | none => n = d
  | some op => ∃ k q,ev env op = some (.f (.v (.int k q))) ∧ 0 ≤ q ∧ n = q.toNat
def cutHi {α : Type} : Option α → Option Nat → Nat → Option Nat
  | none,h,_ => h
  | some _,_,x => some x
def cutClip {α : Type} : Option α → Option α → Bool → Bool
  | some _,_,_ => true
  | none,none,cl => cl
  | none,some _,_ => false
def charsOf (s : ByteArray) : List FV := s.data.toList.map fun b => .v (.int .u8 b.toNat)
def stepSlice (tab : Tab) (env : Env) (H : Heap) (nx : Nat) (K : PV → Nat → Heap → Prop) (t : Nat) (x : Operand) (lo hi mx : Option Operand) : Prop :=
  ∃ i,tab t = some i ∧
    ((∃ s a b,i.kd = .str ∧ mx = none ∧ ev env x = some (.f (.v (.string s))) ∧ bound env lo 0 a ∧ bound env hi s.size b ∧ a ≤ b ∧ b ≤ s.size ∧ K (.f (.v (.string (s.extract a b)))) nx H) ∨
     (∃ e ie cl l a b,i.kd = .slice e ∧ tab e = some ie ∧ ie.size ≠ 0 ∧ ev env x = some (.f (.sl ie.size cl l)) ∧ bound env lo 0 a ∧ bound env hi l.length b ∧ a ≤ b ∧ b ≤ l.length ∧
        (∀ m,mx = some m → ∃ p,hi = some p ∧ bound env mx 0 b) ∧
        K (.f (.sl ie.size (cutClip mx hi cl) ((l.take b).drop a))) nx H) ∨
     (∃ e ie n lo0 hi0 wr l a b,i.kd = .slice e ∧ tab e = some ie ∧ mx = none ∧ ev env x = some (.ref n lo0 hi0) ∧ look H n = some (.buf wr ie.size l) ∧ bound env lo 0 a ∧
        bound env hi (view lo0 hi0 l).length b ∧ a ≤ b ∧ b ≤ (view lo0 hi0 l).length ∧ K (.ref n (lo0 + a) (cutHi hi hi0 (lo0 + b))) nx H) ∨
     (∃ e ie,i.kd = .slice e ∧ tab e = some ie ∧ ev env x = some (.f (.v (.slice none 0 0))) ∧ bound env lo 0 0 ∧ bound env hi 0 0 ∧ bound env mx 0 0 ∧ (mx = none ∨ hi ≠ none) ∧ K (.f (.v (.slice none 0 0))) nx H))
theorem run_bound {φ : Nat → Phys}{tmps : Array Value}{w : World} (hs : StΦ c nx env H φ tmps w) {x : Operand}{d n y : Nat}{code : BoundsCode} (h : bound env (some x) d n) (hn : n ≤ y) :
    (Instr.sliceBound ((act tmps).eval x) y code).run P w = .ok n w := by
  obtain ⟨k,q,h1,h2,rfl⟩ := h
  rw [(ev_rep hs h1).v_inv]
  exact run_sliceBound w k q y code h2 (by omega)
theorem run_bounds {φ : Nat → Phys}{tmps : Array Value}{w : World} (hs : StΦ c nx env H φ tmps w) {sl : Bool}{len cap a b : Nat}{lo hi : Option Operand} (ha : bound env lo 0 a) (hb : bound env hi len b)
    (hab : a ≤ b) (hbc : b ≤ cap) : (Instr.sliceBounds sl len cap (lo.map (act tmps).eval) (hi.map (act tmps).eval) none).run P w = .ok (a,b,cap) w := by
  cases lo with
  | none =>
    have ha' : a = 0 := ha
    subst ha'
    cases hi with
    | none => have hb' : b = len := hb; subst hb'; simp [Instr.sliceBounds]
    | some q => simp only [Instr.sliceBounds,Option.map_some,Option.map_none,Sem.run_bind,Sem.run_pure,Result.andThen_ok,run_bound hs hb hbc]
  | some p =>
    cases hi with
    | none =>
      have hb' : b = len := hb
      subst hb'
      simp only [Instr.sliceBounds,Option.map_some,Option.map_none,Sem.run_bind,Sem.run_pure,Result.andThen_ok,run_bound hs ha hab]
    | some q => simp only [Instr.sliceBounds,Option.map_some,Option.map_none,Sem.run_bind,Sem.run_pure,Result.andThen_ok,run_bound hs hb hbc,run_bound hs ha hab]
theorem run_bounds3 {φ : Nat → Phys}{tmps : Array Value}{w : World} (hs : StΦ c nx env H φ tmps w) {sl : Bool}{len cap a b d : Nat}{lo : Option Operand}{h m : Operand} (ha : bound env lo 0 a) (hb : bound env (some h) len b)
    (hm : bound env (some m) d b) (hab : a ≤ b) (hbc : b ≤ cap) : (Instr.sliceBounds sl len cap (lo.map (act tmps).eval) (some ((act tmps).eval h)) (some ((act tmps).eval m))).run P w = .ok (a,b,b) w := by
  cases lo with
  | none =>
    have ha' : a = 0 := ha
    subst ha'
    simp only [Instr.sliceBounds,Option.map_none,Sem.run_bind,Sem.run_pure,Result.andThen_ok,run_bound hs hm hbc,run_bound hs hb (Nat.le_refl b)]
  | some p => simp only [Instr.sliceBounds,Option.map_some,Sem.run_bind,Sem.run_pure,Result.andThen_ok,run_bound hs hm hbc,run_bound hs hb (Nat.le_refl b),run_bound hs ha hab]
theorem take_drop_get {α : Type}{l : List α}{a b i : Nat}{x : α} (h : ((l.take b).drop a)[i]? = some x) : l[a + i]? = some x := by
  rw [List.getElem?_drop,List.getElem?_take] at h
  split at h
  · exact h
  · cases h
theorem RepF.cut {w : World}{S : Nat → Nat → Prop}{sz : Nat}{cl cl' : Bool}{l : List FV}{A : Option Addr}{len cap a b m : Nat} (h : RepF w S (.sl sz cl l) (.slice A len cap)) (hab : a ≤ b) (hb : b ≤ l.length)
    (hbm : b ≤ m) (hm : m ≤ cap) (hcl : cl' = true → m = b) : RepF w S (.sl sz cl' ((l.take b).drop a)) (.slice (if m = a then A else A.map (·.add (a * sz))) (b - a) (m - a)) := by
  have hlen : ((l.take b).drop a).length = b - a := by simp; omega
  have emp : b - a = 0 → m = a → RepF w S (.sl sz cl' ((l.take b).drop a)) (.slice A (b - a) (m - a)) := by
    intro h1 h2
    have : (l.take b).drop a = [] := List.eq_nil_of_length_eq_zero (by rw [hlen,h1])
    rw [this,h1,show m - a = 0 by omega]
    cases A with
    | none => exact .slnil _ _
    | some A => exact .slemp _ _ A
  cases h with
  | slnil =>
    simp at hb
    have : b = 0 := hb
    have : m = 0 := by omega
    have : a = 0 := by omega
    subst this
    rw [if_pos (by omega)]
    exact emp (by omega) (by omega)
  | slemp _ _ A =>
    simp at hb
    have : b = 0 := hb
    have : m = 0 := by omega
    have : a = 0 := by omega
    subst this
    rw [if_pos (by omega)]
    exact emp (by omega) (by omega)
  | sl _ _ _ bb off _ val h1 h2 h3 h4 h5 =>
    by_cases e : m = a
    · rw [if_pos e]; exact emp (by omega) e
    · rw [if_neg e]
      simp only [Option.map_some,add_plain]
      rw [← hlen]
      refine .sl _ _ _ bb (off + a * sz) _ (fun i j => val (a + i) j) (by rw [hlen]; omega) (fun hc => by rw [hlen,hcl hc]) (fun i x hx => h3 _ x (take_drop_get hx)) (fun i x j d hx hd => ?_) (fun i x j d hx hd => h5 _ x j d (take_drop_get hx) hd)
      have := h4 (a + i) x j d (take_drop_get hx) hd
      rw [Nat.add_mul,← Nat.add_assoc] at this
      exact this
theorem exec_slice {t : Nat}{x : Operand}{lo hi mx : Option Operand}{tmps : Array Value}{w : World}{v r : Value} (ho : o.op = .slice t x lo hi mx)
    (hx : (act tmps).eval x = v) (hrun : (Instr.sliceAt t v (lo.map (act tmps).eval) (hi.map (act tmps).eval) (mx.map (act tmps).eval)).run P w = .ok r w) : (execOp (act tmps).eval o).run P w = .ok (.value r) w := by
  simp only [execOp,ho,hx]
  rw [Sem.run_bind,hrun]; rfl
theorem does_slice (ht : TabOk P tab) {t : Nat}{x : Operand}{lo hi mx : Option Operand} (ho : o.op = .slice t x lo hi mx) (h : stepSlice tab env H nx K t x lo hi mx) : Does P o c nx env H K :=
  Does.pure fun φ tmps w hs => by
    obtain ⟨i,h1,h⟩ := h
    rcases h with ⟨s,a,b,h2,rfl,h3,h4,h5,h6,h7,h8⟩|⟨e,ie,cl,l,a,b,h2,h3,h4,h5,h6,h7,h8,h9,h10,h11⟩|⟨e,ie,n,lo0,hi0,wr,l,a,b,h2,h3,rfl,h4,h5,h6,h7,h8,h9,h10⟩|⟨e,ie,h2,hie0,h3,h4,h5,h6,h7,h8⟩
    · have hu := under_str ht h1 h2
      refine ⟨_,_,exec_slice ho (ev_rep hs h3).v_inv ?_,h8,.f (.v _)⟩
      simp only [Instr.sliceAt,Instr.slice,Option.map_none]
      simp only [Sem.run_bind,run_underlying hu,Result.andThen_ok,Option.isSome_none,Bool.false_eq_true,if_false,Sem.run_pure,run_bounds hs h4 h5 h6 h7]
    · have hu := under_slice ht h1 h2
      have hr := ev_rep hs h5
      generalize hv : (act tmps).eval x = v at hr
      have hval : ∃ A len cap,v = .slice A len cap ∧ len = l.length ∧ l.length ≤ cap ∧ (cl = true → cap = l.length) := by
        cases hr with
        | f hr => cases hr with
          | slnil => exact ⟨_,_,_,rfl,rfl,Nat.le_refl _,fun _ => rfl⟩
          | slemp => exact ⟨_,_,_,rfl,rfl,Nat.le_refl _,fun _ => rfl⟩
          | sl => exact ⟨_,_,_,rfl,rfl,by assumption,by assumption⟩
      obtain ⟨A,len,cap,rfl,hlen,hcap,hclip⟩ := hval
      subst hlen
      cases hr with
      | f hr =>
      cases mx with
      | none =>
        refine ⟨_,_,exec_slice ho hv ?_,h11,.f (hr.cut h8 h9 (m := cap) (by omega) (Nat.le_refl _) fun hc => ?_)⟩
        · simp only [Instr.sliceAt,Instr.slice,Option.map_none]
          simp only [Sem.run_bind,run_underlying hu,Result.andThen_ok,Sem.run_pure,run_bounds hs h6 h7 h8 (show b ≤ cap by omega),run_size ht h3]
        · cases hi with
          | none => have hb : b = l.length := h7; rw [hb]; exact hclip hc
          | some p => simp [cutClip] at hc
      | some m =>
        obtain ⟨p,rfl,hm⟩ := h10 m rfl
        refine ⟨_,_,exec_slice ho hv ?_,h11,.f (hr.cut h8 h9 (m := b) (Nat.le_refl _) (by omega) fun hc => rfl)⟩
        simp only [Instr.sliceAt,Instr.slice,Option.map_some]
        simp only [Sem.run_bind,run_underlying hu,Result.andThen_ok,Sem.run_pure,run_bounds3 hs h6 h7 hm h8 (show b ≤ cap by omega),run_size ht h3]
    · have hu := under_slice ht h1 h2
      have hr := ev_rep hs h4
      generalize hv : (act tmps).eval x = v at hr
      obtain ⟨hnx,e1,e2,e3⟩ := hs.ok.obj n _ h5
      cases hr with
      | @refnil _ hz hlt hnil hlen hh0 =>
        have hl0 : l = [] := by rw [e1] at hlen; exact List.eq_nil_of_length_eq_zero hlen
        subst hl0
        have hv0 : view 0 hi0 ([] : List FV) = [] := by cases hi0 <;> simp [view]
        rw [hv0] at h7 h9
        simp at h9
        subst h9
        have ha0 : a = 0 := by omega
        subst ha0
        have h7' : bound env hi 0 0 := h7
        refine ⟨_,.slice none 0 0,exec_slice ho hv ?_,h10,.refnil hlt hnil hlen ?_⟩
        · simp only [Instr.sliceAt,Instr.slice,Option.map_none]
          simp only [Sem.run_bind,run_underlying hu,Result.andThen_ok,Sem.run_pure,run_bounds hs h6 h7' (Nat.le_refl 0) (Nat.le_refl 0),run_size ht h3]
          simp
        · cases hi with
          | none => exact hh0
          | some p => simp [cutHi]
      | @ref _ _ _ cap A hlt hnil b1 b2 b3 b4 b5 =>
        rcases e3 with ⟨e3,_⟩|⟨_,arr,ty,a1,a2,a3,a4,a5⟩
        · rw [hnil] at e3; cases e3
        have hvl : (view lo0 hi0 l).length = hi0.getD (φ n).len - lo0 := by rw [e1] at b2 ⊢; exact view_length b2
        rw [hvl] at h7 h9
        have hnew : (cutHi hi hi0 (lo0 + b)).getD (φ n).len = lo0 + b := by
          cases hi with
          | none => have hb : b = hi0.getD (φ n).len - lo0 := h7; simp only [cutHi]; omega
          | some p => simp [cutHi]
        refine ⟨_,.slice (if cap = a then some A else (some A).map (·.add (a * ie.size))) (b - a) (cap - a),exec_slice ho hv ?_,h10, ?_⟩
        · simp only [Instr.sliceAt,Instr.slice,Option.map_none]
          simp only [Sem.run_bind,run_underlying hu,Result.andThen_ok,Sem.run_pure,run_bounds hs h6 h7 h8 (show b ≤ cap by omega),run_size ht h3]
        · have key : ∀ A',(cap - a ≠ 0 → A' = ⟨(φ n).blk,(φ n).base + (lo0 + a) * (φ n).sz,none⟩) →
              Rep φ nx w (SS c.So φ H) (.ref n (lo0 + a) (cutHi hi hi0 (lo0 + b))) (.slice (some A') (b - a) (cap - a)) := by
            intro A' hA'
            have := Rep.ref (φ := φ) (nx := nx) (w := w) (S := SS c.So φ H) (n := n) (lo := lo0 + a) (hi := cutHi hi hi0 (lo0 + b)) (cap := cap - a) (A := A')
              hlt hnil (by rw [hnew]; omega) (by rw [hnew]; omega) (by omega) b4 hA'
            rw [hnew,show lo0 + b - (lo0 + a) = b - a by omega] at this
            exact this
          by_cases e : cap = a
          · rw [if_pos e]; exact key A fun hne => absurd (by omega) hne
          · rw [if_neg e]
            simp only [Option.map_some]
            refine key _ fun _ => ?_
            have := b5 (by omega)
            subst this
            rw [add_plain,Nat.add_mul,← Nat.add_assoc,e2]
    · have hu := under_slice ht h1 h2
      have hv := (ev_rep hs h3).v_inv
      have z0 : bound env hi 0 0 := h5
      cases mx with
      | none =>
        refine ⟨_,.slice none 0 0,exec_slice ho hv ?_,h8,.f (.v _)⟩
        simp only [Instr.sliceAt,Instr.slice,Option.map_none]
        simp only [Sem.run_bind,run_underlying hu,Result.andThen_ok,Sem.run_pure,run_bounds hs h4 h5 (Nat.le_refl 0) (Nat.le_refl 0)]
        simp [run_size ht hie0]
      | some m =>
        cases hi with
        | none => rcases h7 with h7|h7 <;> simp at h7
        | some p =>
        refine ⟨_,.slice none 0 0,exec_slice ho hv ?_,h8,.f (.v _)⟩
        simp only [Instr.sliceAt,Instr.slice,Option.map_some]
        simp only [Sem.run_bind,run_underlying hu,Result.andThen_ok,Sem.run_pure,run_bounds3 hs h4 h5 h6 (Nat.le_refl 0) (Nat.le_refl 0)]
        simp [run_size ht hie0]
end
section
variable {P : Program}{tab : Tab}{c : Ctx}{nx : Nat}{env : Env}{H H' : Heap}{K : PV → Nat → Heap → Prop}{o : Oper}
structure News (P : Program) (w : World) (S : Nat → Nat → Prop) (sz : Nat) (vx : Value) (xs : List FV) (news : List Value) : Prop where
  len : ∀ w',(Builtin.lenOf vx).run P w' = .ok xs.length w'
  cells : ∀ w' : World,(∀ b off,w'.cell? ⟨b,off,none⟩ = w.cell? ⟨b,off,none⟩) → (Builtin.firstCells sz xs.length vx).run P w' = .ok news.toArray w'
  length : news.length = xs.length * sz
  one : ∀ v ∈ news,one v = true
  elem : ∀ (i : Nat) y,xs[i]? = some y → y.cells.length = sz
  rep : ∀ (i : Nat) y (j : Nat) d,xs[i]? = some y → y.cells[j]? = some d → ∃ u,news[i * sz + j]? = some u ∧ Pv.one u = true ∧ RepF w S d u
theorem div_mod_lt {q n sz : Nat} (h : q < n * sz) : q / sz < n ∧ q % sz < sz := by
  have hp : 0 < sz := by rcases Nat.eq_zero_or_pos sz with h0|h0; subst h0; simp at h; exact h0
  exact ⟨Nat.div_lt_of_lt_mul (by rw [Nat.mul_comm]; exact h),Nat.mod_lt _ hp⟩
theorem Holds.news {φ : Nat → Phys}{tmps : Array Value}{w : World} (hs : StΦ c nx env H φ tmps w) {x : Operand}{sz : Nat}{xs : List FV} (h : Holds env H x sz xs) :
    ∃ news,News P w (SS c.So φ H) sz ((act tmps).eval x) xs news := by
  obtain ⟨a,cap,k1,k2,k3,k4,k5⟩ := h.lies hs
  cases a with
  | none =>
    obtain ⟨rfl,rfl⟩ := k3 rfl
    exact ⟨[],⟨fun w' => by rw [k1]; rfl,fun w' _ => by rw [k1]; simp [Builtin.firstCells],by simp,by simp,fun i y hy => by simp at hy,fun i y j d hy => by simp at hy⟩⟩
  | some p =>
    by_cases hx : xs = []
    · subst hx
      refine ⟨[],⟨fun w' => by rw [k1]; rfl,fun w' _ => by rw [k1]; simp [Builtin.firstCells,loadCells,loadCellsFrom],by simp,by simp,fun i y hy => by simp at hy,fun i y j d hy => by simp at hy⟩⟩
    · obtain ⟨hsp,hc⟩ := k5 p rfl hx
      obtain ⟨pb,po,psp⟩ := p
      simp only at hsp hc
      subst hsp
      have hall : ∀ q,q < xs.length * sz → ∃ u,w.cell? ⟨pb,po + q,none⟩ = some u ∧ Pv.one u = true := by
        intro q hq
        obtain ⟨h1,h2⟩ := div_mod_lt hq
        have hcl := k4 (q / sz) xs[q / sz] (by simp [h1])
        obtain ⟨u,a1,a2,_⟩ := hc (q / sz) xs[q / sz] (q % sz) (xs[q / sz].cells[q % sz]'(by rw [hcl]; exact h2)) (by simp [h1]) (by simp)
        refine ⟨u, ?_,a2⟩
        rw [Nat.add_assoc,Nat.div_add_mod' q sz] at a1
        exact a1
      refine ⟨(List.range (xs.length * sz)).map fun q => (w.cell? ⟨pb,po + q,none⟩).getD undef,⟨fun w' => by rw [k1]; rfl,fun w' hw' => ?_,by simp,fun v hv => ?_,k4,fun i y j d hy hd => ?_⟩⟩
      · rw [k1]
        refine run_firstCells_some (P := P) w' sz xs.length ⟨pb,po,none⟩ xs.length cap _ (by simp) fun j v hj => ?_
        simp only [List.getElem?_map,Option.map_eq_some_iff] at hj
        obtain ⟨q,q1,q2⟩ := hj
        have hlt : j < xs.length * sz := by have := (List.getElem?_eq_some_iff.1 q1).1; simpa using this
        simp [hlt] at q1
        subst q1
        obtain ⟨u,u1,_⟩ := hall j hlt
        rw [add_plain,hw',← q2,u1]; rfl
      · simp only [List.mem_map,List.mem_range] at hv
        obtain ⟨q,q1,rfl⟩ := hv
        obtain ⟨u,u1,u2⟩ := hall q q1
        rw [u1]; exact u2
      · have hil : i < xs.length := (List.getElem?_eq_some_iff.1 hy).1
        have hjl : j < sz := by rw [← k4 i y hy]; exact (List.getElem?_eq_some_iff.1 hd).1
        obtain ⟨u,a1,a2,a3⟩ := hc i y j d hy hd
        have hlt : i * sz + j < xs.length * sz := by
          have := Nat.mul_le_mul_right sz (show i + 1 ≤ xs.length by omega)
          rw [Nat.add_mul] at this; omega
        refine ⟨u, ?_,a2,a3⟩
        simp only [List.getElem?_map,List.getElem?_range hlt,Option.map_some]
        rw [← Nat.add_assoc,a1]; rfl
theorem news_chars (s : ByteArray) (w : World) (S : Nat → Nat → Prop) : News P w S 1 (.string s) (charsOf s) ((s.data.map fun b => Value.int .u8 b.toNat).toList) := by
  have hl : (charsOf s).length = s.size := by simp [charsOf]
  refine ⟨fun w' => by rw [hl]; rfl,fun w' _ => ?_,by rw [hl]; simp,fun v hv => ?_,fun i y hy => ?_,fun i y j d hy hd => ?_⟩
  · rw [hl]
    simp only [Builtin.firstCells,Sem.run_pure]
    have : s.extract 0 s.size = s := by simp
    rw [this]
  · simp at hv
    obtain ⟨b,_,rfl⟩ := hv
    rfl
  · simp only [charsOf,List.getElem?_map,Option.map_eq_some_iff] at hy
    obtain ⟨b,_,rfl⟩ := hy
    rfl
  · simp only [charsOf,List.getElem?_map,Option.map_eq_some_iff] at hy
    obtain ⟨b,hb,rfl⟩ := hy
    cases j with
    | zero =>
      simp [FV.cells] at hd; subst hd
      refine ⟨.int .u8 b.toNat, ?_,rfl,.v _⟩
      simp at hb ⊢
      exact ⟨b,hb,rfl⟩
    | succ j => simp [FV.cells] at hd
theorem run_append_in {t u ty e : Nat}{ie : TI} (ht : TabOk P tab) (hu : P.underlying t = some (.slice e)) (he : tab e = some ie) (hz : (∃ e',P.underlying u = some (.slice e')) ∨ P.underlying u = some .string)
    {b off sLen sCap : Nat}{vx : Value}{xs : List FV}{news : List Value}{w : World}{S : Nat → Nat → Prop} (hn : News P w S ie.size vx xs news) (hroom : sLen + xs.length ≤ sCap) {arr : Array Value}{bt : Nat}
    (hb : w.heap[b]? = some (.cells arr bt (0,0))) (hfit : off + (sLen + xs.length) * ie.size ≤ arr.size) :
    (Builtin.append_ #[t,u] ty #[.slice (some ⟨b,off,none⟩) sLen sCap,vx]).run P w =
      .ok (.slice (some ⟨b,off,none⟩) (sLen + xs.length) sCap) (w.setRow b (arr.toList.take (off + sLen * ie.size) ++ news ++ arr.toList.drop (off + sLen * ie.size + news.length)).toArray) := by
  have hst := run_storeCells_at P b (off + sLen * ie.size) bt news 0 arr w hb (by rw [hn.length]; rw [Nat.add_mul] at hfit; omega) hn.one
  simp only [Nat.add_zero] at hst
  rcases hz with ⟨e',hq⟩|hq <;>
    simp [Builtin.append_,run_underlying hu,run_underlying hq,run_size ht he,hn.len,hroom,hn.cells w (fun _ _ => rfl),add_plain,hst]
theorem run_append_none {t u ty e : Nat}{ie : TI} (ht : TabOk P tab) (hu : P.underlying t = some (.slice e)) (he : tab e = some ie) (hz : (∃ e',P.underlying u = some (.slice e')) ∨ P.underlying u = some .string)
    {A : Option Addr}{sLen sCap : Nat}{vx : Value}{news : List Value}{w : World}{S : Nat → Nat → Prop} (hn : News P w S ie.size vx [] news) (hroom : sLen ≤ sCap) :
    (Builtin.append_ #[t,u] ty #[.slice A sLen sCap,vx]).run P w = .ok (.slice A sLen sCap) w := by
  have h0 : news = [] := List.eq_nil_of_length_eq_zero (by rw [hn.length]; simp)
  have hlen := hn.len w
  have hcells := hn.cells w (fun _ _ => rfl)
  subst h0
  simp only [List.length_nil] at hlen hcells
  rcases hz with ⟨e',hq⟩|hq <;> cases A <;> simp [Builtin.append_,run_underlying hu,run_underlying hq,run_size ht he,hlen,hroom,hcells,storeCells]
theorem run_append_out {t u ty e : Nat}{ie : TI} (ht : TabOk P tab) (hu : P.underlying t = some (.slice e)) (he : tab e = some ie) (hz : (∃ e',P.underlying u = some (.slice e')) ∨ P.underlying u = some .string)
    {A : Option Addr}{sLen sCap : Nat}{vx : Value}{xs : List FV}{news olds : List Value}{w : World}{S : Nat → Nat → Prop} (hn : News P w S ie.size vx xs news) (hroom : sCap < sLen + xs.length)
    (ho : (Builtin.firstCells ie.size sLen (.slice A sLen sCap)).run P w.drew = .ok olds.toArray w.drew) (hbytes : (sLen + xs.length) * ie.bytes ≤ 140737488355328) (hb0 : ie.bytes ≠ 0) :
    ∃ cap rest,sLen + xs.length ≤ cap ∧ rest.size = (cap - (sLen + xs.length)) * ie.size ∧
      (Builtin.append_ #[t,u] ty #[.slice A sLen sCap,vx]).run P w = .ok (.slice (some ⟨w.heap.size,0,none⟩) (sLen + xs.length) cap) (w.drew.alloc (.cells (olds.toArray ++ news.toArray ++ rest) e)) := by
  obtain ⟨ti,z,z1,z2,z3,z4,z5,z6⟩ := (ht e ie he).info
  have hzl := (ht e ie he).len
  refine ⟨grownCap w (sLen + xs.length) sCap e,Builtin.zeroCells z.cells (grownCap w (sLen + xs.length) sCap e - (sLen + xs.length)),grownCap_ge w _ _ _, ?_, ?_⟩
  · simp [Builtin.zeroCells,z5,hzl]
  ·
      have hroom' : ¬ (sLen + xs.length ≤ sCap) := by omega
      have hgrow := growslice_fits (bytes := ie.bytes) hroom hbytes
      have hg2 : ¬ (281474976710656 < Builtin.nextslicecap (sLen + xs.length) sCap * ie.bytes) := by omega
      have hcells := hn.cells w.drew (fun _ _ => rfl)
      have htb : ti.bytes ≠ 0 := by rw [z3]; exact hb0
      rcases hz with ⟨e',hq⟩|hq <;>
        simp [Builtin.append_,run_underlying hu,run_underlying hq,sizeOf,typeInfo,zeroValue,z1,z2,z3,z4,hn.len,hroom',hb0,hg2,Question.forced,grownCap,ho,hcells,newRow] <;>
        (congr 2; apply Array.ext'; simp)
def Src (tab : Tab) (env : Env) (H : Heap) (u : Nat) (x : Operand) (sz : Nat) (xs : List FV) : Prop :=
  ∃ iu,tab u = some iu ∧ ((∃ e,iu.kd = .slice e ∧ Holds env H x sz xs) ∨ (∃ s,iu.kd = .str ∧ sz = 1 ∧ ev env x = some (.f (.v (.string s))) ∧ xs = charsOf s))
theorem Src.news {φ : Nat → Phys}{tmps : Array Value}{w : World} (ht : TabOk P tab) (hs : StΦ c nx env H φ tmps w) {u : Nat}{x : Operand}{sz : Nat}{xs : List FV} (h : Src tab env H u x sz xs) :
    ((∃ e',P.underlying u = some (.slice e')) ∨ P.underlying u = some .string) ∧ ∃ news,News P w (SS c.So φ H) sz ((act tmps).eval x) xs news := by
  obtain ⟨iu,h1,⟨e,h2,h3⟩|⟨s,h2,rfl,h3,rfl⟩⟩ := h
  · exact ⟨.inl ⟨e,under_slice ht h1 h2⟩,h3.news hs⟩
  · rw [(ev_rep hs h3).v_inv]
    exact ⟨.inr (under_str ht h1 h2),_,news_chars s w _⟩
def stepAppend (tab : Tab) (env : Env) (H : Heap) (nx : Nat) (K : PV → Nat → Heap → Prop) (t u : Nat) (s x : Operand) : Prop :=
  ∃ i e ie xs,tab t = some i ∧ i.kd = .slice e ∧ tab e = some ie ∧ ie.size ≠ 0 ∧ ie.bytes ≠ 0 ∧ Src tab env H u x ie.size xs ∧
    ((∃ n lo wr l,ev env s = some (.ref n lo none) ∧ look H n = some (.buf wr ie.size l) ∧ (l.length + xs.length) * ie.bytes ≤ 140737488355328 ∧
        K (.ref nx 0 none) (nx + 1) ((nx,.buf wr ie.size (l.drop lo ++ xs)) :: drop H n)) ∨
     (ev env s = some (.f (.v (.slice none 0 0))) ∧ xs.length * ie.bytes ≤ 140737488355328 ∧ K (.ref nx 0 none) (nx + 1) ((nx,.buf true ie.size xs) :: H)) ∨
     (∃ l,ev env s = some (.f (.sl ie.size true l)) ∧ (l.length + xs.length) * ie.bytes ≤ 140737488355328 ∧ xs ≠ [] ∧ K (.ref nx 0 none) (nx + 1) ((nx,.buf true ie.size (l ++ xs)) :: H)) ∨
     (∃ l,ev env s = some (.f (.sl ie.size true l)) ∧ xs = [] ∧ K (.f (.sl ie.size true l)) nx H))
theorem exec_append {t u : Nat}{s x : Operand}{tmps : Array Value}{w w' : World}{r v vx : Value} (ho : o.op = .call { callee := .builtin .append,args := #[s,x],argTypes := #[t,u] })
    (hv : (act tmps).eval s = v) (hx : (act tmps).eval x = vx) (hrun : (Builtin.append_ #[t,u] o.type #[v,vx]).run P w = .ok r w') : (execOp (act tmps).eval o).run P w = .ok (.value r) w' := by
  simp only [execOp,ho,resolve,invoke,builtin]
  have e1 : #[s,x].map (act tmps).eval = #[v,vx] := by simp [hv,hx]
  simp only [Sem.run_bind,Sem.run_pure,Result.andThen_ok,e1,hrun]
theorem two_rows {S : Nat → Nat → Prop}{w : World}{sz : Nat}{l xs : List FV}{olds news : List Value}{arr : Array Value}{rest : Array Value} (harr : arr = olds.toArray ++ news.toArray ++ rest) (hol : olds.length = l.length * sz) (hnl : news.length = xs.length * sz)
    (ho : ∀ (i : Nat) y (j : Nat) d,l[i]? = some y → y.cells[j]? = some d → ∃ u,olds[i * sz + j]? = some u ∧ one u = true ∧ RepF w S d u) (hl : ∀ (i : Nat) y,l[i]? = some y → y.cells.length = sz)
    (hn : ∀ (i : Nat) y (j : Nat) d,xs[i]? = some y → y.cells[j]? = some d → ∃ u,news[i * sz + j]? = some u ∧ one u = true ∧ RepF w S d u) (hx : ∀ (i : Nat) y,xs[i]? = some y → y.cells.length = sz) :
    ∀ (i : Nat) y (j : Nat) d,(l ++ xs)[i]? = some y → y.cells[j]? = some d → ∃ u,arr[i * sz + j]? = some u ∧ one u = true ∧ RepF w S d u := by
  intro i y j d hy hd
  subst harr
  by_cases hi : i < l.length
  · rw [List.getElem?_append_left hi] at hy
    have hj : j < sz := by rw [← hl i y hy]; exact (List.getElem?_eq_some_iff.1 hd).1
    obtain ⟨u,a1,a2,a3⟩ := ho i y j d hy hd
    refine ⟨u, ?_,a2,a3⟩
    have hlt : i * sz + j < olds.length := (List.getElem?_eq_some_iff.1 a1).1
    rw [Array.getElem?_append,if_pos (by simp; omega),Array.getElem?_append,if_pos (by simpa using hlt)]
    simpa using a1
  · rw [List.getElem?_append_right (by omega)] at hy
    have hj : j < sz := by rw [← hx _ y hy]; exact (List.getElem?_eq_some_iff.1 hd).1
    obtain ⟨u,a1,a2,a3⟩ := hn _ y j d hy hd
    refine ⟨u, ?_,a2,a3⟩
    have hlt : (i - l.length) * sz + j < news.length := (List.getElem?_eq_some_iff.1 a1).1
    have e : i * sz = l.length * sz + (i - l.length) * sz := by rw [← Nat.add_mul]; congr 1; omega
    rw [Array.getElem?_append,if_pos (by simp; omega),Array.getElem?_append,if_neg (by simp; omega)]
    simp only [List.size_toArray,List.getElem?_toArray]
    rw [show i * sz + j - olds.length = (i - l.length) * sz + j by omega]
    exact a1
theorem append_get {l xs : List FV}{sz : Nat} (hl : ∀ (i : Nat) y,l[i]? = some y → y.cells.length = sz) (hx : ∀ (i : Nat) y,xs[i]? = some y → y.cells.length = sz) : ∀ (i : Nat) y,(l ++ xs)[i]? = some y → y.cells.length = sz := by
  intro i y hy
  by_cases hi : i < l.length
  · rw [List.getElem?_append_left hi] at hy; exact hl i y hy
  · rw [List.getElem?_append_right (by omega)] at hy; exact hx _ y hy
theorem append_grow (ht : TabOk P tab) {φ : Nat → Phys}{tmps : Array Value}{w : World} (hs : StΦ c nx env H φ tmps w) {t u ty e : Nat}{ie : TI} (hu : P.underlying t = some (.slice e)) (he : tab e = some ie)
    (hz : (∃ e',P.underlying u = some (.slice e')) ∨ P.underlying u = some .string) {A : Option Addr}{sCap : Nat}{vx : Value}{l xs : List FV}{news : List Value}
    (hn : News P w (SS c.So φ H) ie.size vx xs news) (hroom : sCap < l.length + xs.length) (hbytes : (l.length + xs.length) * ie.bytes ≤ 140737488355328) (hb0 : ie.bytes ≠ 0)
    (hold : ∃ olds : List Value,(Builtin.firstCells ie.size l.length (.slice A l.length sCap)).run P w.drew = .ok olds.toArray w.drew ∧ olds.length = l.length * ie.size ∧
      ∀ (i : Nat) y (j : Nat) d,l[i]? = some y → y.cells[j]? = some d → ∃ u,olds[i * ie.size + j]? = some u ∧ one u = true ∧ RepF w (SS c.So φ H) d u) (hl : ∀ (i : Nat) y,l[i]? = some y → y.cells.length = ie.size) :
    ∃ φ' r w',(Builtin.append_ #[t,u] ty #[.slice A l.length sCap,vx]).run P w = .ok r w' ∧ StΦ c (nx + 1) env ((nx,.buf true ie.size (l ++ xs)) :: H) φ' tmps w' ∧ (∀ S,Rep φ' (nx + 1) w' S (.ref nx 0 none) r) ∧ ∀ n,n < nx → φ' n = φ n := by
  obtain ⟨olds,o1,o2,o3⟩ := hold
  obtain ⟨cap,rest,c1,c2,c3⟩ := run_append_out (ty := ty) ht hu he hz hn hroom o1 hbytes hb0
  obtain ⟨n1,n2⟩ := hs.newBuf (w' := w.drew.alloc (.cells (olds.toArray ++ news.toArray ++ rest) e)) (sz := ie.size) (cap := cap) (ys := l ++ xs) (arr := olds.toArray ++ news.toArray ++ rest) (e := e) rfl rfl rfl rfl
    (by rw [List.length_append]; exact c1)
    (by
      simp only [Array.size_append,List.size_toArray,o2,hn.length,c2]
      rw [← Nat.add_mul,← Nat.add_mul]
      exact Nat.le_of_eq (by congr 1; omega))
    (append_get hl hn.elem)
    (two_rows rfl o2 hn.length o3 hl hn.rep hn.elem)
  rw [List.length_append] at n1 n2
  exact ⟨_,_,_,c3,n1,n2,fun n hn => upd_ne _ _ (by omega)⟩
theorem StΦ.let_go' {φ : Nat → Phys}{tmps : Array Value}{w : World}{m : Nat}{ob : Obj} (h : StΦ c nx env ((m,ob) :: H) φ tmps w) {n : Nat} (hne : m ≠ n) : StΦ c nx env ((m,ob) :: drop H n) φ tmps w := by
  have := h.let_go n
  simpa [drop,hne] using this
theorem StΦ.laid {φ : Nat → Phys}{tmps : Array Value}{w : World} (hs : StΦ c nx env H φ tmps w) {n : Nat}{wr : Bool}{sz : Nat}{l l2 xs : List FV}{news : List Value}{vx : Value}{arr : Array Value}{ty B cap sLen : Nat}
    (k2 : look H n = some (.buf wr sz l)) (hnil : (φ n).nil = false) (a1 : w.heap[(φ n).blk]? = some (.cells arr ty (0,0))) (hB : B + cap * sz ≤ arr.size) (hbl : (φ n).base + l.length * sz = B + sLen * sz) (hl2 : l2.length = sLen)
    (hel : ∀ (i : Nat) x,l2[i]? = some x → x.cells.length = sz)
    (hold : ∀ (i : Nat) x (j : Nat) d,l2[i]? = some x → x.cells[j]? = some d → ∃ u,arr[B + i * sz + j]? = some u ∧ one u = true ∧ RepF w (SS c.So φ H) d u)
    (hn : News P w (SS c.So φ H) sz vx xs news) (hroom : sLen + xs.length ≤ cap) :
    StΦ c (nx + 1) env ((nx,.buf wr sz (l2 ++ xs)) :: drop H n) (upd φ nx ⟨(φ n).blk,B,cap,(l2 ++ xs).length,sz,false⟩) tmps (w.setRow (φ n).blk (splice arr.toList (B + sLen * sz) news).toArray) := by
  have hfit : B + sLen * sz + news.length ≤ arr.toList.length := by
    have := Nat.mul_le_mul_right sz hroom
    rw [Nat.add_mul,← hn.length] at this
    simp; omega
  refine hs.write (n := n) (m := nx) (nx' := nx + 1) k2 hnil (.inr ⟨rfl,rfl⟩) rfl rfl ?_ rfl rfl rfl (by simp) (fun b hb => setRow_other w _ b _ hb) (fun q hq => ?_) (fun hm => ?_)
  · cases wr with
    | true => simp [lim]
    | false => simp only [lim,List.length_append,hl2,Nat.add_mul]; omega
  · cases wr with
    | true => simp [lim] at hq
    | false =>
      simp only [lim] at hq
      rw [cell_heap (setRow_heap w _ arr _ ty _ a1),cell_heap a1,List.getElem?_toArray,splice_get hfit,if_pos (by omega)]
      simp
  · simp only [SatO,upd_same]
    refine ⟨trivial,trivial,.inr ⟨trivial,_,ty,setRow_heap w _ arr _ ty _ a1, ?_,by rw [List.length_append,hl2]; exact hroom,append_get hel hn.elem,fun i x j d h1 h2 => ?_⟩⟩
    · simp only [List.size_toArray]; rw [splice_length hfit]; simpa using hB
    · rw [List.getElem?_toArray,splice_get hfit]
      by_cases hi : i < l2.length
      · rw [List.getElem?_append_left hi] at h1
        obtain ⟨u,u1,u2,u3⟩ := hold i x j d h1 h2
        have hj : j < sz := by rw [← hel i x h1]; exact (List.getElem?_eq_some_iff.1 h2).1
        have := Nat.mul_le_mul_right sz (show i + 1 ≤ sLen by omega)
        rw [Nat.add_mul] at this
        exact ⟨u,by rw [if_pos (by omega)]; simpa using u1,u2,u3.step hm⟩
      · rw [List.getElem?_append_right (by omega)] at h1
        obtain ⟨u,u1,u2,u3⟩ := hn.rep _ x j d h1 h2
        have hlt := (List.getElem?_eq_some_iff.1 u1).1
        have e : i * sz = sLen * sz + (i - l2.length) * sz := by rw [← Nat.add_mul]; congr 1; omega
        refine ⟨u, ?_,u2,u3.step hm⟩
        rw [if_neg (by omega),if_pos (by omega)]
        rw [show B + i * sz + j - (B + sLen * sz) = (i - l2.length) * sz + j by omega]
        exact u1
theorem does_append (ht : TabOk P tab) {t u : Nat}{s x : Operand} (ho : o.op = .call { callee := .builtin .append,args := #[s,x],argTypes := #[t,u] }) (h : stepAppend tab env H nx K t u s x) : Does P o c nx env H K :=
  Does.value fun φ tmps w hs => by
    obtain ⟨i,e,ie,xs,h1,h2,h3,h4,hb0,h5,h⟩ := h
    have hu := under_slice ht h1 h2
    obtain ⟨hz,news,hn⟩ := h5.news ht hs
    rcases h with ⟨n,lo,wr,l,k1,k2,k3,k4⟩|⟨k1,k3,k4⟩|⟨l,k1,k3,k5,k4⟩|⟨l,k1,k5,k4⟩
    · have hr := ev_rep hs k1
      obtain ⟨hnx,e1,e2,e3⟩ := hs.ok.obj n _ k2
      generalize hv : (act tmps).eval s = v at hr
      cases hr with
      | @refnil _ _ hlt hnil hlen hh0 =>
        have hl0 : l = [] := by rw [e1] at hlen; exact List.eq_nil_of_length_eq_zero hlen
        subst hl0
        by_cases hx : xs = []
        · subst hx
          have hrun := run_append_none (ty := o.type) ht hu h3 hz (A := none) (sLen := 0) (sCap := 0) hn (Nat.le_refl 0)
          refine ⟨_,_,_,upd φ nx ⟨0,0,0,0,ie.size,true⟩,_,w,exec_append ho hv rfl hrun,k4, ?_, ?_⟩
          · have := hs.nilbuf wr ie.size
            exact this.let_go' (by omega)
          · exact .refnil (Nat.lt_succ_self _) (by rw [upd_same]) (by rw [upd_same]) rfl
        · have hlx : 0 < xs.length := List.length_pos_iff.2 hx
          obtain ⟨φ',r,w',g1,g2,g3,g4⟩ := append_grow (ty := o.type) (l := []) ht hs hu h3 hz (A := none) (sCap := 0) hn (by simpa using hlx) (by simpa using k3) hb0 ⟨[],by simp [Builtin.firstCells],by simp,fun i y j d hy => by simp at hy⟩ (fun i y hy => by simp at hy)
          have hst : StΦ c (nx + 1) env ((nx,.buf wr ie.size (List.drop 0 [] ++ xs)) :: drop H n) φ' tmps w' := by
            cases wr with
            | true => simpa using g2.let_go' (n := n) (by omega)
            | false =>
              have := (g2.let_go' (n := n) (by omega)).freeze (look_cons_same _ _ _)
              refine this.sub fun m ob hm => ?_
              by_cases em : nx = m
              · subst em; rw [look_cons_same] at hm; rw [look_hput_same]; simpa using hm
              · rw [look_cons_ne _ _ em] at hm; rw [look_hput_ne _ _ em,look_cons_ne _ _ em]; exact hm
          exact ⟨_,_,_,φ',r,w',exec_append ho hv rfl g1,k4,hst,g3 _⟩
      | @ref _ _ _ cap A hlt hnil b1 b2 b3 b4 b5 =>
        rcases e3 with ⟨e3,_⟩|⟨_,arr,ty,a1,a2,a3,a4,a5⟩
        · rw [hnil] at e3; cases e3
        simp only [Option.getD_none] at b1 b2 hv
        rw [e1] at b1 b4 hv
        have hvn : view lo none l = l.drop lo := rfl
        have hH : Holds env H s ie.size (l.drop lo) := .inr (.inr ⟨n,lo,none,wr,l,k1,k2,rfl⟩)
        have hdl : (l.drop lo).length = l.length - lo := by simp
        have hmul : (φ n).base + lo * ie.size + (l.length - lo) * ie.size = (φ n).base + l.length * ie.size := by rw [Nat.add_assoc,← Nat.add_mul]; congr 2; omega
        have hold : ∀ (i : Nat) x (j : Nat) d,(l.drop lo)[i]? = some x → x.cells[j]? = some d → ∃ u,arr[(φ n).base + lo * ie.size + i * ie.size + j]? = some u ∧ one u = true ∧ RepF w (SS c.So φ H) d u := by
          intro i x j d hx hd
          rw [List.getElem?_drop] at hx
          obtain ⟨u,u1,u2,u3⟩ := a5 _ x j d hx hd
          rw [Nat.add_mul] at u1
          exact ⟨u,by rw [show (φ n).base + lo * ie.size + i * ie.size + j = (φ n).base + (lo * ie.size + i * ie.size) + j by omega]; exact u1,u2,u3⟩
        have hel : ∀ (i : Nat) x,(l.drop lo)[i]? = some x → x.cells.length = ie.size := by
          intro i x hx; rw [List.getElem?_drop] at hx; exact a4 _ x hx
        have hBs : (φ n).base + lo * ie.size + cap * ie.size ≤ arr.size := by rw [b3,Nat.add_mul] at a2; omega
        have hres : ∀ (w1 : World) (S : Nat → Nat → Prop),(l.drop lo ++ xs).length ≤ cap →
            Rep (upd φ nx ⟨(φ n).blk,(φ n).base + lo * ie.size,cap,(l.drop lo ++ xs).length,ie.size,false⟩) (nx + 1) w1 S (.ref nx 0 none) (.slice (some A) (l.drop lo ++ xs).length cap) := by
          intro w1 S hle
          have := Rep.ref (φ := upd φ nx ⟨(φ n).blk,(φ n).base + lo * ie.size,cap,(l.drop lo ++ xs).length,ie.size,false⟩) (nx := nx + 1) (w := w1) (S := S) (n := nx) (lo := 0) (hi := none) (cap := cap) (A := A)
            (Nat.lt_succ_self _) (by rw [upd_same]) (Nat.zero_le _) (by simp) (by rw [upd_same]; simp) (by rw [upd_same]; exact hle) (fun hc => by rw [upd_same,b5 hc,e2]; simp)
          simpa [upd_same] using this
        by_cases hroom : l.length - lo + xs.length ≤ cap
        · have hlaid := hs.laid k2 hnil a1 hBs hmul.symm hdl hel hold hn hroom
          have hlen : (l.drop lo ++ xs).length = l.length - lo + xs.length := by rw [List.length_append,hdl]
          by_cases hx : xs = []
          · have h0 : news = [] := List.eq_nil_of_length_eq_zero (by rw [hn.length,hx]; simp)
            have hself : w.setRow (φ n).blk (splice arr.toList ((φ n).base + lo * ie.size + (l.length - lo) * ie.size) news).toArray = w := by
              have : splice arr.toList ((φ n).base + lo * ie.size + (l.length - lo) * ie.size) news = arr.toList := by rw [h0]; simp [splice]
              rw [this]; exact setRow_self w _ arr ty (0,0) a1
            rw [hself] at hlaid
            have hrun := run_append_none (ty := o.type) ht hu h3 hz (A := some A) (sLen := l.length - lo) (sCap := cap) (by rw [hx] at hn; exact hn) (by omega)
            have hr2 := hres w (SS c.So (upd φ nx ⟨(φ n).blk,(φ n).base + lo * ie.size,cap,(l.drop lo ++ xs).length,ie.size,false⟩) ((nx,.buf wr ie.size (l.drop lo ++ xs)) :: drop H n)) (by rw [hlen]; exact hroom)
            have hl0 : (l.drop lo ++ xs).length = l.length - lo := by rw [hlen,hx]; rfl
            rw [hl0] at hr2
            rw [hl0] at hlaid
            exact ⟨_,_,_,_,_,w,exec_append ho hv rfl hrun,k4,hlaid,hr2⟩
          · have hlx : 0 < xs.length := List.length_pos_iff.2 hx
            have hA := b5 (by omega)
            rw [e2] at hA
            have hrun := run_append_in (ty := o.type) ht hu h3 hz hn hroom a1 (off := (φ n).base + lo * ie.size) (by
              have := Nat.mul_le_mul_right ie.size hroom
              omega)
            rw [← hA] at hrun
            have hr2 := hres (w.setRow (φ n).blk (splice arr.toList ((φ n).base + lo * ie.size + (l.length - lo) * ie.size) news).toArray)
              (SS c.So (upd φ nx ⟨(φ n).blk,(φ n).base + lo * ie.size,cap,(l.drop lo ++ xs).length,ie.size,false⟩) ((nx,.buf wr ie.size (l.drop lo ++ xs)) :: drop H n)) (by rw [hlen]; exact hroom)
            rw [hlen] at hr2 hlaid
            exact ⟨_,_,_,_,_,_,exec_append ho hv rfl hrun,k4,hlaid,hr2⟩
        · have hx : xs ≠ [] := fun e => hroom (by rw [e]; simp; omega)
          obtain ⟨olds,ho1⟩ := hH.news (P := P) hs
          have hfc := ho1.cells w.drew (fun _ _ => rfl)
          rw [hv,hdl] at hfc
          obtain ⟨φ',r,w',g1,g2,g3,g4⟩ := append_grow (ty := o.type) (l := l.drop lo) ht hs hu h3 hz (A := some A) (sCap := cap) hn (by rw [hdl]; omega)
            (Nat.le_trans (Nat.mul_le_mul_right _ (by rw [hdl]; omega)) k3) hb0 ⟨olds,by rw [hdl]; exact hfc,ho1.length,ho1.rep⟩ ho1.elem
          rw [hdl] at g1
          have hst : StΦ c (nx + 1) env ((nx,.buf wr ie.size (l.drop lo ++ xs)) :: drop H n) φ' tmps w' := by
            cases wr with
            | true => exact g2.let_go' (n := n) (by omega)
            | false =>
              have := (g2.let_go' (n := n) (by omega)).freeze (look_cons_same _ _ _)
              refine this.sub fun m ob hm => ?_
              by_cases em : nx = m
              · subst em; rw [look_cons_same] at hm; rw [look_hput_same]; exact hm
              · rw [look_cons_ne _ _ em] at hm; rw [look_hput_ne _ _ em,look_cons_ne _ _ em]; exact hm
          exact ⟨_,_,_,φ',r,w',exec_append ho hv rfl g1,k4,hst,g3 _⟩
    · have hv := (ev_rep hs k1).v_inv
      by_cases hx : xs = []
      · subst hx
        have hrun := run_append_none (ty := o.type) ht hu h3 hz (A := none) (sLen := 0) (sCap := 0) hn (Nat.le_refl 0)
        exact ⟨_,_,_,upd φ nx ⟨0,0,0,0,ie.size,true⟩,_,w,exec_append ho hv rfl hrun,k4,hs.nilbuf true ie.size,.refnil (Nat.lt_succ_self _) (by rw [upd_same]) (by rw [upd_same]) rfl⟩
      · have hlx : 0 < xs.length := List.length_pos_iff.2 hx
        obtain ⟨φ',r,w',g1,g2,g3,g4⟩ := append_grow (ty := o.type) (l := []) ht hs hu h3 hz (A := none) (sCap := 0) hn (by simpa using hlx) (by simpa using k3) hb0 ⟨[],by simp [Builtin.firstCells],by simp,fun i y j d hy => by simp at hy⟩ (fun i y hy => by simp at hy)
        exact ⟨_,_,_,φ',r,w',exec_append ho hv rfl g1,k4,by simpa using g2,g3 _⟩
    · have hlx : 0 < xs.length := List.length_pos_iff.2 k5
      have hH : Holds env H s ie.size l := .inl ⟨true,k1⟩
      have hr := ev_rep hs k1
      obtain ⟨olds,ho1⟩ := hH.news (P := P) hs
      obtain ⟨a,cap,q1,q2,q3,q4,q5⟩ := hH.lies hs
      have hcap : cap = l.length := by
        rw [q1] at hr
        cases hr with|f hr => cases hr with|slnil => rfl|slemp => rfl|sl _ _ _ _ _ _ _ _ h2 => exact h2 rfl
      subst hcap
      have hfc := ho1.cells w.drew (fun _ _ => rfl)
      rw [q1] at hfc
      obtain ⟨φ',r,w',g1,g2,g3,g4⟩ := append_grow (ty := o.type) ht hs hu h3 hz (A := a) (sCap := l.length) hn (by omega) k3 hb0 ⟨olds,hfc,ho1.length,ho1.rep⟩ ho1.elem
      exact ⟨_,_,_,φ',r,w',exec_append ho q1 rfl g1,k4,g2,g3 _⟩
    · subst k5
      have hr := ev_rep hs k1
      obtain ⟨a,cap,q1,q2,q3,q4,q5⟩ := Holds.lies hs (x := s) (sz := ie.size) (l := l) (.inl ⟨true,k1⟩)
      have hrun := run_append_none (ty := o.type) ht hu h3 hz (A := a) (sLen := l.length) (sCap := cap) hn q2
      rw [q1] at hr
      exact ⟨_,_,_,φ,_,w,exec_append ho q1 rfl hrun,k4,hs,hr⟩
def stepCopy (tab : Tab) (env : Env) (H : Heap) (nx : Nat) (K : PV → Nat → Heap → Prop) (t u : Nat) (s x : Operand) : Prop :=
  ∃ i e ie xs n lo l,tab t = some i ∧ i.kd = .slice e ∧ tab e = some ie ∧ Src tab env H u x ie.size xs ∧ ev env s = some (.ref n lo none) ∧ look H n = some (.buf true ie.size l) ∧ lo + xs.length ≤ l.length ∧
    K (.f (.v (.int .i64 ((xs.length : Nat) : Int)))) nx ((n,.buf true ie.size (l.take lo ++ xs ++ l.drop (lo + xs.length))) :: drop H n)
theorem exec_copy {t u : Nat}{s x : Operand}{tmps : Array Value}{w w' : World}{r v vx : Value} (ho : o.op = .call { callee := .builtin .copy,args := #[s,x],argTypes := #[t,u] })
    (hv : (act tmps).eval s = v) (hx : (act tmps).eval x = vx) (hrun : (Builtin.copy_ #[t,u] o.type #[v,vx]).run P w = .ok r w') : (execOp (act tmps).eval o).run P w = .ok (.value r) w' := by
  simp only [execOp,ho,resolve,invoke,builtin]
  have e1 : #[s,x].map (act tmps).eval = #[v,vx] := by simp [hv,hx]
  simp only [Sem.run_bind,Sem.run_pure,Result.andThen_ok,e1,hrun]
theorem run_copy {t u ty e : Nat}{ie : TI} (ht : TabOk P tab) (hu : P.underlying t = some (.slice e)) (he : tab e = some ie) {A : Option Addr}{dLen dCap : Nat}{vx : Value}{xs : List FV}{news : List Value}{w w' : World}{S : Nat → Nat → Prop}
    (hn : News P w S ie.size vx xs news) (hle : xs.length ≤ dLen) (hst : match A with|some a => (storeCells a news).run P w = .ok () w'|none => w' = w) :
    (Builtin.copy_ #[t,u] ty #[.slice A dLen dCap,vx]).run P w = .ok (.int .i64 ((xs.length : Nat) : Int)) w' := by
  have hmin : Nat.min xs.length dLen = xs.length := Nat.min_eq_left hle
  cases A with
  | none =>
    simp only at hst
    subst hst
    simp [Builtin.copy_,run_underlying hu,hn.len,run_size ht he,hmin,hn.cells w' (fun _ _ => rfl),goInt]
  | some a =>
    simp only at hst
    simp [Builtin.copy_,run_underlying hu,hn.len,run_size ht he,hmin,hn.cells w (fun _ _ => rfl),goInt,hst]
theorem does_copy (ht : TabOk P tab) {t u : Nat}{s x : Operand} (ho : o.op = .call { callee := .builtin .copy,args := #[s,x],argTypes := #[t,u] }) (h : stepCopy tab env H nx K t u s x) : Does P o c nx env H K :=
  Does.value fun φ tmps w hs => by
    obtain ⟨i,e,ie,xs,n,lo,l,h1,h2,h3,h5,k1,k2,hle,k4⟩ := h
    have hu := under_slice ht h1 h2
    obtain ⟨hz,news,hn⟩ := h5.news ht hs
    have hr := ev_rep hs k1
    obtain ⟨hnx,e1,e2,e3⟩ := hs.ok.obj n _ k2
    generalize hv : (act tmps).eval s = v at hr
    have same : xs = [] → StΦ c nx env ((n,.buf true ie.size (l.take lo ++ xs ++ l.drop (lo + xs.length))) :: drop H n) φ tmps w := by
      intro hx
      subst hx
      refine hs.sub fun m ob hm => ?_
      by_cases em : n = m
      · subst em; rw [look_cons_same] at hm; rw [k2]; simpa using hm
      · rw [look_cons_ne _ _ em,look_drop_ne _ em] at hm; exact hm
    cases hr with
    | @refnil _ _ hlt hnil hlen hh0 =>
      have hl0 : l = [] := by rw [e1] at hlen; exact List.eq_nil_of_length_eq_zero hlen
      have hx : xs = [] := List.eq_nil_of_length_eq_zero (by rw [hl0,List.length_nil] at hle; omega)
      have hrun := run_copy (u := u) (ty := o.type) (A := none) (dLen := 0) (dCap := 0) (w' := w) ht hu h3 hn (by rw [hx]; simp) rfl
      exact ⟨_,_,_,φ,_,w,exec_copy ho hv rfl hrun,k4,same hx,.f (.v _)⟩
    | @ref _ _ _ cap A hlt hnil b1 b2 b3 b4 b5 =>
      rcases e3 with ⟨e3,_⟩|⟨_,arr,ty,a1,a2,a3,a4,a5⟩
      · rw [hnil] at e3; cases e3
      simp only [Option.getD_none] at b1 b2 hv
      rw [e1] at b1 b4 hv
      by_cases hx : xs = []
      · have h0 : news = [] := List.eq_nil_of_length_eq_zero (by rw [hn.length,hx]; simp)
        have hrun := run_copy (u := u) (ty := o.type) (A := some A) (dLen := l.length - lo) (dCap := cap) (w' := w) ht hu h3 hn (by omega) (by simp only [h0,storeCells,Sem.run_pure])
        exact ⟨_,_,_,φ,_,w,exec_copy ho hv rfl hrun,k4,same hx,.f (.v _)⟩
      · have hlx : 0 < xs.length := List.length_pos_iff.2 hx
        have hA := b5 (by omega)
        rw [e2] at hA
        have hmul : lo * ie.size + xs.length * ie.size ≤ l.length * ie.size := by rw [← Nat.add_mul]; exact Nat.mul_le_mul_right _ hle
        have hcap := Nat.mul_le_mul_right ie.size a3
        have hfit : (φ n).base + lo * ie.size + news.length ≤ arr.toList.length := by rw [hn.length]; simp; omega
        have hst := run_storeCells_at P (φ n).blk ((φ n).base + lo * ie.size) ty news 0 arr w a1 (by simp at hfit; omega) hn.one
        simp only [Nat.add_zero] at hst
        have hrun := run_copy (u := u) (ty := o.type) (A := some A) (dLen := l.length - lo) (dCap := cap) ht hu h3 hn (by omega) (by rw [hA]; exact hst)
        refine ⟨_,_,_,φ,_,_,exec_copy ho hv rfl hrun,k4, ?_,.f (.v _)⟩
        have hw := hs.write (n := n) (m := n) (nx' := nx) (o' := .buf true ie.size (l.take lo ++ xs ++ l.drop (lo + xs.length))) (p := φ n)
          (w' := w.setRow (φ n).blk (arr.toList.take ((φ n).base + lo * ie.size) ++ news ++ arr.toList.drop ((φ n).base + lo * ie.size + news.length)).toArray)
          k2 hnil (.inl ⟨rfl,rfl,rfl⟩) hnil rfl (Nat.le_refl _) rfl rfl rfl (by simp) (fun b hb => setRow_other w _ b _ hb) (fun q hq => by simp [lim] at hq) (fun hm => by
            rw [upd_self] at hm ⊢
            have hlen : (l.take lo ++ xs ++ l.drop (lo + xs.length)).length = l.length := by simp; omega
            have hel : ∀ (q : Nat) d,(l.take lo ++ xs ++ l.drop (lo + xs.length))[q]? = some d → d.cells.length = ie.size := by
              refine append_get (append_get (fun q d hd => ?_) hn.elem) (fun q d hd => ?_)
              · rw [List.getElem?_take] at hd
                split at hd
                · exact a4 q d hd
                · cases hd
              · rw [List.getElem?_drop] at hd; exact a4 _ d hd
            refine ⟨by rw [hlen]; exact e1,e2,.inr ⟨hnil,_,ty,setRow_heap w _ arr _ ty _ a1, ?_,by rw [hlen]; exact a3,hel, ?_⟩⟩
            · simp only [List.size_toArray]
              have : (arr.toList.take ((φ n).base + lo * ie.size) ++ news ++ arr.toList.drop ((φ n).base + lo * ie.size + news.length)).length = arr.toList.length := splice_length hfit
              rw [this]; simpa using a2
            · intro q d r cc hd hr
              have hsp : (arr.toList.take ((φ n).base + lo * ie.size) ++ news ++ arr.toList.drop ((φ n).base + lo * ie.size + news.length)) = splice arr.toList ((φ n).base + lo * ie.size) news := rfl
              have hrl : r < ie.size := by rw [← hel q d hd]; exact (List.getElem?_eq_some_iff.1 hr).1
              rw [hsp,List.getElem?_toArray,splice_get hfit]
              by_cases q1 : q < lo
              · rw [List.append_assoc,List.getElem?_append_left (by simp; omega),List.getElem?_take_of_lt q1] at hd
                have := Nat.mul_le_mul_right ie.size (show q + 1 ≤ lo by omega)
                rw [Nat.add_mul] at this
                rw [if_pos (by omega)]
                obtain ⟨u,u1,u2,u3⟩ := a5 q d r cc hd hr
                exact ⟨u,by simpa using u1,u2,u3.step hm⟩
              · by_cases q2 : q < lo + xs.length
                · rw [List.append_assoc,List.getElem?_append_right (by simp; omega),List.getElem?_append_left (by simp; omega)] at hd
                  rw [show q - (l.take lo).length = q - lo by simp; omega] at hd
                  obtain ⟨u,u1,u2,u3⟩ := hn.rep _ d r cc hd hr
                  have hlt := (List.getElem?_eq_some_iff.1 u1).1
                  have e : q * ie.size = lo * ie.size + (q - lo) * ie.size := by rw [← Nat.add_mul]; congr 1; omega
                  refine ⟨u, ?_,u2,u3.step hm⟩
                  rw [if_neg (by omega),if_pos (by omega)]
                  rw [show (φ n).base + q * ie.size + r - ((φ n).base + lo * ie.size) = (q - lo) * ie.size + r by omega]
                  exact u1
                · rw [List.getElem?_append_right (by simp; omega),List.getElem?_drop] at hd
                  rw [show lo + xs.length + (q - (l.take lo ++ xs).length) = q by simp; omega] at hd
                  have := Nat.mul_le_mul_right ie.size (show lo + xs.length ≤ q by omega)
                  rw [Nat.add_mul] at this
                  rw [if_neg (by omega),if_neg (by rw [hn.length]; omega)]
                  obtain ⟨u,u1,u2,u3⟩ := a5 q d r cc hd hr
                  exact ⟨u,by simpa using u1,u2,u3.step hm⟩)
        rw [upd_self] at hw
        exact hw
end
section
variable {P : Program}{tab : Tab}{c : Ctx}{nx : Nat}{env : Env}{H : Heap}{K : PV → Nat → Heap → Prop}{o : Oper}
def mpGet : List (Int × Int) → Int → Option Int
  | [],_ => none
  | e :: t,a => if a = e.1 then some e.2 else mpGet t a
theorem mp_find : ∀ (es : List (Int × Int)) (l : List MapEntry) (i : Nat) (a : Int),l.map (fun m => (m.key,m.val)) = es.map mpE →
    ∃ x,Instr.findNow (.int .i64) (.int .i64 a) l i = some x ∧ x.map (·.2) = (mpGet es a).map (Value.int .i64)
  | [],[],i,a,_ => ⟨none,rfl,rfl⟩
  | [],m :: l,i,a,h => by simp at h
  | e :: es,[],i,a,h => by simp at h
  | e :: es,m :: l,i,a,h => by
    simp only [List.map_cons,List.cons.injEq,mpE,Prod.mk.injEq] at h
    obtain ⟨⟨h1,h2⟩,h3⟩ := h
    by_cases he : a = e.1
    · refine ⟨some (i,m.val), ?_, ?_⟩
      · unfold Instr.findNow; rw [h1]; simp [Instr.sameNow,he]
      · simp [mpGet,he,h2]
    · obtain ⟨x,k1,k2⟩ := mp_find es l (i + 1) a h3
      refine ⟨x, ?_, ?_⟩
      · have hb : (a == e.1) = false := by simpa using he
        unfold Instr.findNow; rw [h1]; simp [Instr.sameNow,hb,k1]
      · rw [k2]; simp [mpGet,he]
def stepMakeMap (H : Heap) (nx : Nat) (K : PV → Nat → Heap → Prop) (x : Option Operand) : Prop :=
  x = none ∧ ∀ r,K (.f (.v (.map (some r)))) (nx + 1) ((nx,.mp r []) :: H)
theorem does_makeMap {t : Nat}{x : Option Operand} (ho : o.op = .makeMap t x) (h : stepMakeMap H nx K x) : Does P o c nx env H K :=
  Does.value fun φ tmps w hs => by
    obtain ⟨rfl,h⟩ := h
    have hw : StΦ c (nx + 1) env ((nx,.mp w.heap.size []) :: H) (upd φ nx ⟨w.heap.size,0,0,0,0,false⟩) tmps (w.alloc (.map #[] 0)) := by
      refine hs.push rfl rfl rfl rfl rfl fun hm => ?_
      simp only [SatO,upd_same]
      exact ⟨by first|trivial|rfl,by first|trivial|rfl,#[],0,heap_alloc_new w _,rfl⟩
    refine ⟨_,_,_,_,.map (some w.heap.size),_, ?_,h w.heap.size,hw,.f (.v _)⟩
    simp [execOp,ho,Instr.makeMap]
def stepLookup (P : Program) (env : Env) (H : Heap) (nx : Nat) (K : PV → Nat → Heap → Prop) (t : Nat) (x y : Operand) (ok : Bool) : Prop :=
  ok = false ∧ ∃ kt et r n es a,P.underlying t = some (.map kt et) ∧ P.underlying kt = some (.int .i64) ∧ (P.info? et).bind (·.zero) = some (.int .i64 0) ∧ ev env x = some (.f (.v (.map (some r)))) ∧ look H n = some (.mp r es) ∧
    ev env y = some (.f (.v (.int .i64 a))) ∧ K (.f (.v (.int .i64 ((mpGet es a).getD 0)))) nx H
theorem zero_of {et : Nat}{z : Value} (h : (P.info? et).bind (·.zero) = some z) (w : World) : (zeroValue et).run P w = .ok z w := by
  cases hq : P.info? et with
  | none => rw [hq] at h; cases h
  | some ti =>
    rw [hq] at h
    simp only [Option.bind_some] at h
    simp [zeroValue,typeInfo,hq,h]
theorem rep_plain {φ : Nat → Phys}{S : Nat → Nat → Prop}{w : World}{x v : Value} (h : Rep φ nx w S (.f (.v x)) v) : v = x := by
  cases h with
  | f h => cases h; rfl
theorem does_lookup {t : Nat}{x y : Operand}{ok : Bool} (ho : o.op = .lookup t x y ok) (h : stepLookup P env H nx K t x y ok) : Does P o c nx env H K :=
  Does.pure fun φ tmps w hs => by
    obtain ⟨rfl,kt,et,r,n,es,a,h1,h2,h3,h4,h5,h6,h7⟩ := h
    have e1 := rep_plain (ev_rep hs h4)
    have e2 := rep_plain (ev_rep hs h6)
    obtain ⟨_,_,ents,clock,g1,g2⟩ := (hs.ok.obj n _ h5).2
    obtain ⟨z,k1,k2⟩ := mp_find es ents.toList 0 a g2
    refine ⟨_,.int .i64 ((mpGet es a).getD 0), ?_,h7,.f (.v _)⟩
    have hrun : (Instr.lookup t (.map (some r)) (.int .i64 a) false).run P w = .ok (.int .i64 ((mpGet es a).getD 0)) w := by
      have hck := fun e n => MapKept.run_checkKey (P := P) (w := w) h2 (k := .int .i64 a) rfl e n
      cases z with
      | none =>
        have hn : mpGet es a = none := by cases hg : mpGet es a with
          | none => rfl
          | some v => rw [hg] at k2; cases k2
        simp [Instr.lookup,run_underlying h1,MapKept.run_getObj_map g1,hck _ 9999,MapKept.run_findKey h2 k1,zero_of h3,Result.andThen,hn]
      | some p =>
        have hn : ∃ v,mpGet es a = some v ∧ p.2 = .int .i64 v := by cases hg : mpGet es a with
          | none => rw [hg] at k2; cases k2
          | some v => rw [hg] at k2; simp at k2; exact ⟨v,rfl,k2⟩
        obtain ⟨v,hn,hp⟩ := hn
        obtain ⟨p1,p2⟩ := p
        simp only at hp
        subst hp
        simp [Instr.lookup,run_underlying h1,MapKept.run_getObj_map g1,hck _ 9999,MapKept.run_findKey h2 k1,Result.andThen,hn]
    simp [execOp,ho,e1,e2,hrun]
def stepMapUpdate (P : Program) (env : Env) (H : Heap) (nx : Nat) (K : PV → Nat → Heap → Prop) (t : Nat) (x y z : Operand) : Prop :=
  ∃ kt et r n es a b,P.underlying t = some (.map kt et) ∧ P.underlying kt = some (.int .i64) ∧ ev env x = some (.f (.v (.map (some r)))) ∧ look H n = some (.mp r es) ∧ ev env y = some (.f (.v (.int .i64 a))) ∧ ev env z = some (.f (.v (.int .i64 b))) ∧
    mpGet es a = none ∧ K (.f (.v undef)) nx (hput H n (.mp r (es ++ [(a,b)])))
theorem does_mapUpdate {t : Nat}{x y z : Operand} (ho : o.op = .mapUpdate t x y z) (h : stepMapUpdate P env H nx K t x y z) : Does P o c nx env H K :=
  Does.skip fun φ tmps w hs => by
    obtain ⟨kt,et,r,n,es,a,b,h1,h2,h4,h5,h6,h7,hn,h8⟩ := h
    have e1 := rep_plain (ev_rep hs h4)
    have e2 := rep_plain (ev_rep hs h6)
    have e3 := rep_plain (ev_rep hs h7)
    obtain ⟨hnil,hblk,ents,clock,g1,g2⟩ := (hs.ok.obj n _ h5).2
    obtain ⟨q,k1,k2⟩ := mp_find es ents.toList 0 a g2
    have hq : q = none := by cases q with
      | none => rfl
      | some p => rw [hn] at k2; cases k2
    subst hq
    have hck := fun e n => MapKept.run_checkKey (P := P) (w := w) h2 (k := .int .i64 a) rfl e n
    have hrun : (Instr.mapUpdate t (.map (some r)) (.int .i64 a) (.int .i64 b)).run P w = .ok () { w with heap := w.heap.setIfInBounds r (.map (ents.push ⟨.int .i64 a,.int .i64 b,clock⟩) (clock + 1)) } := by
      simp [Instr.mapUpdate,run_underlying h1,MapKept.run_getObj_map g1,hck _ 9999,MapKept.run_findKey h2 k1,MapKept.run_setObj_map _ g1,Result.andThen]
    obtain ⟨s1,s2⟩ := MapKept.heap_set (o' := .map (ents.push ⟨.int .i64 a,.int .i64 b,clock⟩) (clock + 1)) g1
    have hw := hs.write (n := n) (m := n) (nx' := nx) (o' := .mp r (es ++ [(a,b)])) (p := φ n) (w' := { w with heap := w.heap.setIfInBounds r (.map (ents.push ⟨.int .i64 a,.int .i64 b,clock⟩) (clock + 1)) })
      h5 hnil (.inl ⟨rfl,rfl,rfl⟩) hnil rfl (Nat.le_refl _) rfl rfl rfl (by simp) (fun k hk => s2 k (by rw [← hblk]; exact hk)) (fun q hq => by simp [lim] at hq) (fun hm => by
        rw [upd_self]
        exact ⟨hnil,hblk,_,_,s1,by simp [g2,mpE]⟩)
    rw [upd_self] at hw
    refine ⟨_,_,φ,_, ?_,h8,hw⟩
    simp [execOp,ho,e1,e2,e3,hrun]
end
section
variable {P : Program}{tab : Tab}{c : Ctx}{nx : Nat}{env : Env}{H H' : Heap}{K : PV → Nat → Heap → Prop}{o : Oper}
theorem StΦ.same {φ : Nat → Phys}{tmps : Array Value}{w w' : World} (h : StΦ c nx env H φ tmps w) (ho : w'.os = w.os) (ht : w'.tape = w.tape) (hu : w'.output = w.output) (hz : w.heap.size ≤ w'.heap.size)
    (hb : ∀ b,b < w.heap.size → w'.heap[b]? = w.heap[b]?) : StΦ c nx env H φ tmps w' := by
  have hext : Ext w w' (Own φ H) (Own φ H) := ⟨ho,ht,hu,hz,fun b hlt _ => hb b hlt,fun b off hlt _ => World.cell?_of_block (a := ⟨b,off,none⟩) (hb b hlt),fun _ _ _ h => h⟩
  refine h.next (fun _ _ => rfl) (Nat.le_refl _) ?_ hext
  refine ⟨fun n o' hk => ?_,h.ok.dis,h.ok.out⟩
  obtain ⟨k1,k2⟩ := h.ok.obj n o' hk
  exact ⟨k1,k2.step (fun _ _ => rfl) (Nat.le_refl _) hext.mono k1 fun hf => hb _ (k2.lt hf)⟩
def textOf (ns : List Int) : ByteArray := ns.foldl (fun r n => r.push (UInt8.ofNat n.toNat)) ByteArray.empty
def bytesF (ns : List Int) : List FV := ns.map fun n => .v (.int .u8 n)
def stepText (tab : Tab) (env : Env) (H : Heap) (nx : Nat) (K : PV → Nat → Heap → Prop) (s t : Nat) (x : Operand) : Prop :=
  ∃ is it,tab s = some is ∧ tab t = some it ∧
    ((∃ e ie ns,is.kd = .slice e ∧ tab e = some ie ∧ ie.kd = .int .u8 ∧ it.kd = .str ∧ Holds env H x 1 (bytesF ns) ∧ K (.f (.v (.string (textOf ns)))) nx H) ∨
     (∃ e ie a,is.kd = .str ∧ it.kd = .slice e ∧ tab e = some ie ∧ ie.kd = .int .u8 ∧ ev env x = some (.f (.v (.string a))) ∧ K (.f (.sl 1 false (charsOf a))) nx H) ∨
     (∃ e ie n lo hi wr l,s = t ∧ is.kd = .slice e ∧ tab e = some ie ∧ ie.kd = .int .u8 ∧ ev env x = some (.ref n lo hi) ∧ look H n = some (.buf wr 1 l) ∧ view lo hi l ≠ [] ∧ K (.f (.sl 1 false (view lo hi l))) nx (drop H n)))
theorem cell_freeze (w : World) (a : Addr) (n b off : Nat) : (w.freeze a n).cell? ⟨b,off,none⟩ = w.cell? ⟨b,off,none⟩ := by
  unfold World.freeze
  split
  · rfl
  · simp only [World.cell?,Array.getElem?_modify]
    by_cases hb : a.block = b
    · subst hb
      simp only [if_true]
      cases hq : w.heap[a.block]? with
      | none => rfl
      | some o => cases o <;> rfl
    · simp only [if_neg hb]
theorem StΦ.marked {φ : Nat → Phys}{tmps : Array Value}{w : World} (hs : StΦ c nx env H φ tmps w) {n lo : Nat}{hi : Option Nat}{wr : Bool}{l : List FV}{v : Value} (hl : look H n = some (.buf wr 1 l))
    (hr : Rep φ nx w (SS c.So φ H) (.ref n lo hi) v) (hne : view lo hi l ≠ []) : ∃ A len cap w',v = .slice (some A) len cap ∧ (markStringish A).run P w = .ok () w' ∧ StΦ c nx env (drop H n) φ tmps w' ∧ RepF w' (SS c.So φ (drop H n)) (.sl 1 false (view lo hi l)) v := by
  obtain ⟨h2,hm,hF0⟩ := frz_ok hs (pv := .ref n lo hi) (y := .sl 1 false (view lo hi l)) (H' := hput H n (.buf false 1 l)) (by simp [frz,frz1,hl])
  have hl2 : look (hput H n (.buf false 1 l)) n = some (.buf false 1 l) := look_cons_same _ _ _
  have hF := hF0 v hr
  obtain ⟨o1,o2,o3⟩ := (hs.ok.obj n _ hl).2
  have hv : ∃ A len cap,v = .slice (some A) len cap ∧ A.block = (φ n).blk ∧ (φ n).nil = false := by
    cases hr with
    | refnil a b d e =>
      exfalso
      have : l = [] := List.length_eq_zero_iff.1 (o1.symm.trans d)
      subst this
      cases hi <;> simp [view] at hne
    | @ref _ _ _ cap A a1 a2 a3 a4 a5 a6 a7 =>
      have hvl : (view lo hi l).length = hi.getD l.length - lo := view_length (by rw [o1] at a4; exact a4)
      have hcap : cap ≠ 0 := by
        intro e
        subst e
        have : 0 < (view lo hi l).length := List.length_pos_iff.2 hne
        rw [o1] at a3 a4 a6
        omega
      exact ⟨A,_,cap,rfl,by rw [a7 hcap],a2⟩
  obtain ⟨A,len,cap,rfl,hA,hnil⟩ := hv
  have hmem : ∃ arr ty,w.heap[(φ n).blk]? = some (.cells arr ty (0,0)) := by
    rcases o3 with ⟨q,_⟩|⟨_,arr,ty,q,_⟩
    · rw [hnil] at q; cases q
    · exact ⟨arr,ty,q⟩
  obtain ⟨arr,ty,hw⟩ := hmem
  let w' := w.freeze ⟨A.block,arr.size,none⟩ 1
  have hrun : (markStringish A).run P w = .ok () w' := by
    have hsh : w.shape? A.block = some (ty,arr.size) := by rw [hA]; simp [World.shape?,hw]
    simp only [markStringish,Sem.run_bind,run_shape,Result.andThen_ok,hsh,run_freeze,w']
  have hcell : ∀ b off,w'.cell? ⟨b,off,none⟩ = w.cell? ⟨b,off,none⟩ := fun b off => cell_freeze w _ _ b off
  have hblk : ∀ b,b ≠ (φ n).blk → w'.heap[b]? = w.heap[b]? := by
    intro b hb
    simp only [w',World.freeze]
    rw [if_neg (by decide)]
    simp only [Array.getElem?_modify]
    rw [if_neg (by rw [hA]; exact fun e => hb e.symm)]
  have hsz : w'.heap.size = w.heap.size := by simp [w',World.freeze]
  have hsub : ∀ b off,Own φ (drop H n) b off → Own φ (hput H n (.buf false 1 l)) b off := by
    rintro b off ⟨m,o',m1,m2⟩
    by_cases e : n = m
    · subst e; rw [look_drop_same] at m1; cases m1
    · rw [look_drop_ne _ e] at m1
      exact ⟨m,o',by unfold hput; rw [look_cons_ne _ _ e,look_drop_ne _ e]; exact m1,m2⟩
  have hext : Ext w w' (Own φ (hput H n (.buf false 1 l))) (Own φ (drop H n)) := by
    refine ⟨by simp only [w',World.freeze]; rw [if_neg (by decide)],by simp only [w',World.freeze]; rw [if_neg (by decide)],by simp only [w',World.freeze]; rw [if_neg (by decide)],by omega,fun b hb hO => hblk b fun e => ?_,fun b off _ _ => hcell b off,fun b off _ ho => hsub b off ho⟩
    exact hO (lim (φ n) (.buf false 1 l)) ⟨n,_,hl2,hnil,e.symm,Nat.le_refl _⟩
  have hmono : Mono w (SS c.So φ (hput H n (.buf false 1 l))) w' (SS c.So φ (drop H n)) := hext.mono
  refine ⟨A,len,cap,w',rfl,hrun, ?_,hF.step hmono⟩
  refine h2.next (fun _ _ => rfl) (Nat.le_refl _) ?_ hext
  have hlook : ∀ m o',look (drop H n) m = some o' → n ≠ m ∧ look (hput H n (.buf false 1 l)) m = some o' := by
    intro m o' hm
    by_cases e : n = m
    · subst e; rw [look_drop_same] at hm; cases hm
    · exact ⟨e,by unfold hput; rw [look_cons_ne _ _ e]; exact hm⟩
  refine ⟨fun m o' hm => ?_,fun m q o1' o2' hm hq => h2.ok.dis m q o1' o2' (hlook m _ hm).2 (hlook q _ hq).2,fun m o' hm => h2.ok.out m o' (hlook m _ hm).2⟩
  obtain ⟨e,hm2⟩ := hlook m o' hm
  obtain ⟨k1,k2⟩ := h2.ok.obj m o' hm2
  refine ⟨k1,k2.step (fun _ _ => rfl) (Nat.le_refl _) hmono k1 fun hf => hblk _ fun eq => ?_⟩
  exact h2.ok.dis m n o' _ hm2 hl2 (fun q => e q.symm) hf hnil eq
theorem does_text (ht : TabOk P tab) {s t : Nat}{x : Operand} (ho : o.op = .convert s t x) (h : stepText tab env H nx K s t x) : Does P o c nx env H K :=
  Does.value fun φ tmps w hs => by
    obtain ⟨is,it,h1,h2,h⟩ := h
    rcases h with ⟨e,ie,ns,g1,g2,g3,g4,g5,g6⟩|⟨e,ie,a,g1,g2,g3,g4,g5,g6⟩|⟨e,ie,n,lo,hi,wr,l,rfl,g1,g2,g3,g4,g5,g6,g7⟩
    · have hu := under_slice ht h1 g1
      have hd := under_str ht h2 g4
      have he : P.underlying e = some (.int .u8) := by have := (ht e ie g2).under; rw [g3] at this; exact this
      obtain ⟨A,cap,k1,k2,k3,k4,k5⟩ := g5.lies hs
      have hl : (bytesF ns).length = ns.length := by simp [bytesF]
      refine ⟨_,_,_,φ,_,w, ?_,g6,hs,.f (.v _)⟩
      simp only [execOp,ho,k1]
      rw [Sem.run_bind,run_convert_bytes_string w s t e A _ cap hu he hd]
      cases A with
      | none =>
        obtain ⟨e0,_⟩ := k3 rfl
        have : ns = [] := by simpa [bytesF] using e0
        subst this
        simp [Conv.bytesToString,textOf]
      | some p =>
        rw [run_bytesToString w p (bytesF ns).length cap ns ?_]
        · rfl
        · by_cases hn : bytesF ns = []
          · have : ns = [] := by simpa [bytesF] using hn
            subst this
            simp [bytesF,loadCells,loadCellsFrom]
          · obtain ⟨hsp,hc⟩ := k5 p rfl hn
            obtain ⟨pb,po,psp⟩ := p
            simp only at hsp hc
            subst hsp
            refine run_loads w pb po _ _ (by simp [hl]) fun j v hj => ?_
            simp only [List.getElem?_map,Option.map_eq_some_iff] at hj
            obtain ⟨n,n1,rfl⟩ := hj
            obtain ⟨u,u1,u2,u3⟩ := hc j (.v (.int .u8 n)) 0 (.v (.int .u8 n)) (by simp [bytesF,n1]) rfl
            cases u3
            simpa using u1
    · have hd := under_slice ht h2 g2
      have hu := under_str ht h1 g1
      have he : P.underlying e = some (.int .u8) := by have := (ht e ie g3).under; rw [g4] at this; exact this
      let n0 := grownCap w a.size 0 e
      let arr : Array Value := (a.data.map fun b => Value.int .u8 b.toNat) ++ Array.replicate (n0 - a.size) (.int .u8 0)
      let w1 : World := w.drew.alloc (.cells arr e)
      have hb : ∀ b,b < w.heap.size → (w1.freeze ⟨w.heap.size,arr.size,none⟩ 1).heap[b]? = w.heap[b]? := by
        intro b hlt
        simp only [World.freeze,w1]
        rw [if_neg (by decide)]
        simp only [Array.getElem?_modify]
        rw [if_neg (by omega)]
        exact heap_alloc_old w.drew _ hlt
      have hrun : (Conv.stringToBytes e a).run P w = .ok (.slice (some ⟨w.heap.size,0,none⟩) a.size n0) (w1.freeze ⟨w.heap.size,arr.size,none⟩ 1) := by
        have hsh : w1.shape? w.heap.size = some (e,arr.size) := by
          have : w1.heap[w.heap.size]? = some (.cells arr e (0,0)) := heap_alloc_new w.drew _
          simp [World.shape?,this]
        simp only [Conv.stringToBytes,markStringish,newRow,Sem.run_bind,run_choose_drew,Question.forced,Bool.false_eq_true,if_false,Result.andThen_ok,run_newObj,Sem.run_pure,run_shape]
        have e1 : ({ w.drew with heap := w.drew.heap.push (.cells ((a.data.map fun b => Value.int .u8 b.toNat) ++ Array.replicate ((Question.appendCap a.size 0 e).cut (w.tape w.drawn (.appendCap a.size 0 e)) - a.size) (.int .u8 0)) e) } : World) = w1 := rfl
        rw [e1]
        have e2 : w.drew.heap.size = w.heap.size := rfl
        rw [e2,hsh]
        simp only [Sem.run_bind,run_freeze,Result.andThen_ok]
        rfl
      have hs' : StΦ c nx env H φ tmps (w1.freeze ⟨w.heap.size,arr.size,none⟩ 1) := hs.same rfl rfl rfl (by simp [World.freeze,w1]) hb
      refine ⟨_,_,_,φ,.slice (some ⟨w.heap.size,0,none⟩) a.size n0,_, ?_,g6,hs', ?_⟩
      · simp only [execOp,ho,(ev_rep hs g5).v_inv,convert]
        simp only [Sem.run_bind,run_underlying hu,run_underlying hd,run_underlying he,Result.andThen_ok,hrun,Sem.run_pure]
      · have hl : (charsOf a).length = a.size := by simp [charsOf]
        rw [← hl]
        have hcell : ∀ (j : Nat),j < a.size → (w1.freeze ⟨w.heap.size,arr.size,none⟩ 1).cell? ⟨w.heap.size,j,none⟩ = (a.data.map fun b => Value.int .u8 b.toNat)[j]? := by
          intro j hj
          simp only [World.cell?,World.freeze]
          rw [if_neg (by decide)]
          have : w1.heap[w.heap.size]? = some (.cells arr e (0,0)) := heap_alloc_new w.drew _
          simp only [Array.getElem?_modify,if_true,this,Option.map_some]
          simp only [Option.isSome_none,Bool.false_eq_true,if_false,arr]
          rw [Array.getElem?_append,if_pos (by simpa using hj)]
        have hnot : ∀ j,¬ SS c.So φ H w.heap.size j := by
          rintro j (hso|⟨n,o',m1,m2,m3,m4⟩)
          · have := c.low _ _ hso; have := hs.ext.size; omega
          · have := (hs.ok.obj n o' m1).2.lt m2; omega
        refine .f (.sl 1 false _ _ 0 n0 (fun i j => ((a.data.map fun b => Value.int .u8 b.toNat)[i]?).getD undef) (by rw [hl]; exact grownCap_ge w _ _ _) (fun e => by cases e) (fun i x hx => ?_) (fun i x j d hx hd => ?_) (fun i x j d hx hd => ?_))
        · simp only [charsOf,List.getElem?_map,Option.map_eq_some_iff] at hx
          obtain ⟨b,_,rfl⟩ := hx; rfl
        all_goals
          simp only [charsOf,List.getElem?_map,Option.map_eq_some_iff,Array.getElem?_toList] at hx
          obtain ⟨b,hb1,rfl⟩ := hx
          have hj : j = 0 ∧ d = .v (.int .u8 b.toNat) := by
            cases j with
            | zero => simp [FV.cells] at hd; exact ⟨rfl,hd.symm⟩
            | succ j => simp [FV.cells] at hd
          obtain ⟨rfl,rfl⟩ := hj
          have hi : i < a.size := (Array.getElem?_eq_some_iff.1 hb1).1
          have hval : (a.data.map fun b => Value.int .u8 b.toNat)[i]? = some (.int .u8 b.toNat) := by simp [hb1]
          simp only [hval,Option.getD_some]
        · refine ⟨?_,hnot _,rfl⟩
          have := hcell i hi
          rw [hval] at this
          simpa using this
        · exact .v _
    · have hu := under_slice ht h1 g1
      have he : P.underlying e = some (.int .u8) := by have := (ht e ie g2).under; rw [g3] at this; exact this
      obtain ⟨A,len,cap,w',k1,k2,k3,k4⟩ := hs.marked (P := P) g5 (ev_rep hs g4) g6
      refine ⟨_,_,_,φ,_,w', ?_,g7,k3,.f k4⟩
      simp only [execOp,ho,k1,convert]
      simp only [Sem.run_bind,run_underlying hu,run_underlying he,Result.andThen_ok,beq_self_eq_true,k2,Sem.run_pure]
end
def ren1 (τ : Nat → Nat) : PV → PV
  | .ptr n off => .ptr (τ n) off
  | .ref n lo hi => .ref (τ n) lo hi
  | .ep n i off => .ep (τ n) i off
  | x => x
def ren2 (τ : Nat → Nat) : PV → PV
  | .agg cs => .agg (cs.map (ren1 τ))
  | .clo fn cs => .clo fn (cs.map (ren1 τ))
  | x => ren1 τ x
def ren (τ : Nat → Nat) : PV → PV
  | .tup xs => .tup (xs.map (ren2 τ))
  | x => ren2 τ x
def has1 (p : Nat → Bool) : PV → Bool
  | .f _ => true
  | .ptr n _ => p n
  | .ref n _ _ => p n
  | .ep n _ _ => p n
  | _ => false
def has2 (p : Nat → Bool) : PV → Bool
  | .agg cs => cs.all (has1 p)
  | .clo _ cs => cs.all (has1 p)
  | x => has1 p x
def has (p : Nat → Bool) : PV → Bool
  | .tup xs => xs.all (has2 p)
  | x => has2 p x
theorem Rep.ren1 {φ φ2 : Nat → Phys}{nx k : Nat}{w : World}{S : Nat → Nat → Prop}{τ : Nat → Nat}{p : Nat → Bool} (hτ : ∀ n,n < nx → p n = true → φ2 (τ n) = φ n ∧ τ n < k) {x : PV}{v : Value}
    (h : Rep φ nx w S x v) (hp : has1 p x = true) : Rep φ2 k w S (Pv.ren1 τ x) v := by
  cases h with
  | f h => exact .f h
  | @ptr n off hn => obtain ⟨a,b⟩ := hτ n hn hp; rw [← a]; exact .ptr b
  | @refnil n hi hn h1 h2 h3 => obtain ⟨a,b⟩ := hτ n hn hp; rw [← a] at h1 h2; exact .refnil b h1 h2 h3
  | @ref n lo hi cap A hn h1 h2 h3 h4 h5 h6 => obtain ⟨a,b⟩ := hτ n hn hp; rw [← a] at h1 h2 h3 h4 h5 h6 ⊢; exact .ref b h1 h2 h3 h4 h5 h6
  | @ep n i off hn h1 h2 => obtain ⟨a,b⟩ := hτ n hn hp; rw [← a] at h1 h2 ⊢; exact .ep b h1 h2
  | agg => simp [has1] at hp
  | tup => simp [has1] at hp
  | clo => simp [has1] at hp
theorem Rep.ren2 {φ φ2 : Nat → Phys}{nx k : Nat}{w : World}{S : Nat → Nat → Prop}{τ : Nat → Nat}{p : Nat → Bool} (hτ : ∀ n,n < nx → p n = true → φ2 (τ n) = φ n ∧ τ n < k) {x : PV}{v : Value}
    (h : Rep φ nx w S x v) (hp : has2 p x = true) : Rep φ2 k w S (Pv.ren2 τ x) v := by
  cases h with
  | agg cs vs h1 h2 h3 =>
    refine .agg _ _ (by simp [h1]) h2 fun i d u hd hu => ?_
    simp only [List.getElem?_map,Option.map_eq_some_iff] at hd
    obtain ⟨d0,e1,rfl⟩ := hd
    exact (h3 i d0 u e1 hu).ren1 hτ (List.all_eq_true.1 hp d0 (List.mem_of_getElem? e1))
  | clo fn cs vs h1 h3 =>
    refine .clo _ _ _ (by simp [h1]) fun i d u hd hu => ?_
    simp only [List.getElem?_map,Option.map_eq_some_iff] at hd
    obtain ⟨d0,e1,rfl⟩ := hd
    exact (h3 i d0 u e1 hu).ren1 hτ (List.all_eq_true.1 hp d0 (List.mem_of_getElem? e1))
  | f h => exact Rep.ren1 hτ (.f h) hp
  | ptr hn => exact Rep.ren1 hτ (.ptr hn) hp
  | refnil a b d e => exact Rep.ren1 hτ (.refnil a b d e) hp
  | ref a b d e f g h => exact Rep.ren1 hτ (.ref a b d e f g h) hp
  | ep a b d => exact Rep.ren1 hτ (.ep a b d) hp
  | tup => simp [has2,has1] at hp
theorem Rep.ren {φ φ2 : Nat → Phys}{nx k : Nat}{w : World}{S : Nat → Nat → Prop}{τ : Nat → Nat}{p : Nat → Bool} (hτ : ∀ n,n < nx → p n = true → φ2 (τ n) = φ n ∧ τ n < k) {x : PV}{v : Value}
    (h : Rep φ nx w S x v) (hp : has p x = true) : Rep φ2 k w S (Pv.ren τ x) v := by
  cases h with
  | tup cs vs h1 h3 =>
    refine .tup _ _ (by simp [h1]) fun i d u hd hu => ?_
    simp only [List.getElem?_map,Option.map_eq_some_iff] at hd
    obtain ⟨d0,e1,rfl⟩ := hd
    exact (h3 i d0 u e1 hu).ren2 hτ (List.all_eq_true.1 hp d0 (List.mem_of_getElem? e1))
  | f h => exact Rep.ren2 hτ (.f h) hp
  | ptr hn => exact Rep.ren2 hτ (.ptr hn) hp
  | refnil a b d e => exact Rep.ren2 hτ (.refnil a b d e) hp
  | ref a b d e f g h => exact Rep.ren2 hτ (.ref a b d e f g h) hp
  | ep a b d => exact Rep.ren2 hτ (.ep a b d) hp
  | agg a b d e f => exact Rep.ren2 hτ (.agg a b d e f) hp
  | clo a b d e f => exact Rep.ren2 hτ (.clo a b d e f) hp
def renO (τ : Nat → Nat) : Obj → Obj
  | .obj cs => .obj (cs.map (ren2 τ))
  | x => x
def hasO (p : Nat → Bool) : Obj → Bool
  | .obj cs => cs.all (has2 p)
  | _ => true
theorem lim_renO (τ : Nat → Nat) (p : Phys) (o : Obj) : lim p (renO τ o) = lim p o := by cases o <;> rfl
theorem SatO.ren {φ φ2 : Nat → Phys}{nx k : Nat}{w : World}{S S2 : Nat → Nat → Prop}{τ : Nat → Nat}{p : Nat → Bool} (hτ : ∀ n,n < nx → p n = true → φ2 (τ n) = φ n ∧ τ n < k) {n m : Nat}{o : Obj}
    (hS : ∀ b off,S b off ↔ S2 b off) (he : φ2 m = φ n) (h : SatO φ nx w S n o) (hp : hasO p o = true) : SatO φ2 k w S2 m (renO τ o) := by
  have hSS : S = S2 := by funext b off; exact propext (hS b off)
  subst hSS
  cases o with
  | obj cs =>
    obtain ⟨h0,arr,ty,h1,h2,h3⟩ := h
    simp only [SatO,renO,he]
    refine ⟨h0,arr,ty,h1,by simp [h2],fun i d hd => ?_⟩
    simp only [List.getElem?_map,Option.map_eq_some_iff] at hd
    obtain ⟨d0,e1,rfl⟩ := hd
    obtain ⟨u,a1,a2,a3⟩ := h3 i d0 e1
    exact ⟨u,a1,a2,a3.ren2 hτ (List.all_eq_true.1 hp d0 (List.mem_of_getElem? e1))⟩
  | buf wr sz l => simp only [SatO,renO,he] at h ⊢; exact h
  | mp r es => simp only [SatO,renO,he] at h ⊢; exact h
def Callable (P : Program) (f : Nat) : Prop := ∃ fn,P.funcs[f]? = some fn ∧ fn.body.isSome = true ∧ (fn.name == "runtime.NumGoroutine") = false
def T (P : Program) (f : Nat) (args : List PV) (k : Nat) (H : Heap) (Q : PV → Nat → Heap → Prop) : Prop :=
  Callable P f ∧ ∀ (w : World) (φ : Nat → Phys) (So : Nat → Nat → Prop) (vals : Array Value),(∀ b off,So b off → b < w.heap.size) → Ok φ k So H w → vals.size = args.length →
    (∀ (i : Nat) a v,args[i]? = some a → vals[i]? = some v → Rep φ k w (SS So φ H) a v) →
    Calls P f vals w fun e w' => ∃ r k' H' φ' v,e = .returned v ∧ Q r k' H' ∧ Ok φ' k' So H' w' ∧ Rep φ' k' w' (SS So φ' H') r v ∧ Ext w w' (Own φ H) (Own φ' H') ∧ k ≤ k' ∧ ∀ n,n < k → φ' n = φ n
theorem T.mono {P : Program}{f : Nat}{args : List PV}{k : Nat}{H : Heap}{Q Q' : PV → Nat → Heap → Prop} (h : T P f args k H Q) (hq : ∀ r k' H',Q r k' H' → Q' r k' H') : T P f args k H Q' :=
  ⟨h.1,fun w φ So vals h1 h2 h3 h4 => (h.2 w φ So vals h1 h2 h3 h4).mono fun e w' ⟨r,k',H',φ',v,a,b,d⟩ => ⟨r,k',H',φ',v,a,hq _ _ _ b,d⟩⟩
def mkH : Nat → List Obj → Heap
  | _,[] => []
  | i,o :: t => (i,o) :: mkH (i + 1) t
theorem look_mkH : ∀ (os : List Obj) (i n : Nat),look (mkH i os) n = if i ≤ n then os[n - i]? else none
  | [],i,n => by simp [mkH,look]
  | o :: t,i,n => by
    simp only [mkH,look]
    by_cases h : i = n
    · subst h; simp
    · rw [if_neg h,look_mkH t (i + 1) n]
      by_cases h2 : i ≤ n
      · rw [if_pos h2,if_pos (by omega)]
        have : n - i = (n - (i + 1)) + 1 := by omega
        rw [this,List.getElem?_cons_succ]
      · rw [if_neg h2,if_neg (by omega)]
def drops (H : Heap) : List Nat → Heap
  | [] => H
  | n :: t => drops (drop H n) t
theorem look_drops : ∀ (ns : List Nat) (H : Heap) (n : Nat),look (drops H ns) n = if n ∈ ns then none else look H n
  | [],H,n => by simp [drops]
  | m :: t,H,n => by
    simp only [drops]
    rw [look_drops t (drop H m) n]
    by_cases h : n = m
    · subst h; simp [look_drop_same]
    · simp only [List.mem_cons,h,false_or]
      split
      · rfl
      · rw [look_drop_ne _ (fun e => h e.symm)]
def renH (τ : Nat → Nat) (H : Heap) : Heap := H.map fun p => (τ p.1,renO τ p.2)
theorem look_append {α : Type} (A B : List (Nat × α)) (n : Nat) : look (A ++ B) n = (look A n).or (look B n) := by
  induction A with
  | nil => simp [look]
  | cons p A ih =>
    obtain ⟨k,x⟩ := p
    simp only [List.cons_append,look]
    split
    · simp
    · exact ih
theorem look_renH {τ : Nat → Nat}{H : Heap}{n : Nat}{o : Obj} (h : look (renH τ H) n = some o) : ∃ i o',(i,o') ∈ H ∧ τ i = n ∧ o = renO τ o' := by
  induction H with
  | nil => simp [renH,look] at h
  | cons p H ih =>
    obtain ⟨k,x⟩ := p
    simp only [renH,List.map_cons,look] at h
    split at h
    · rename_i hk
      cases h
      exact ⟨k,x,by simp,hk,rfl⟩
    · obtain ⟨i,o',a,b,d⟩ := ih h
      exact ⟨i,o',by simp [a],b,d⟩
def Dist (H : Heap) : Prop := ∀ n o,(n,o) ∈ H → look H n = some o
section
variable {P : Program}{tab : Tab}{c : Ctx}{nx : Nat}{env : Env}{H H' : Heap}{K : PV → Nat → Heap → Prop}{o : Oper}
structure Handed (H : Heap) (ns : List Nat) (os : List Obj) : Prop where
  len : os.length = ns.length
  obj : ∀ (i : Nat) n,ns[i]? = some n → ∃ o,os[i]? = some o ∧ look H n = some o
  nodup : ns.Nodup
def tau (ns : List Nat) (n : Nat) : Nat := ns.idxOf n
def sig (ns : List Nat) (nx : Nat) (i : Nat) : Nat := if i < ns.length then ns.getD i 0 else nx + (i - ns.length)
theorem tau_mem {ns : List Nat}{n : Nat} (h : n ∈ ns) : tau ns n < ns.length ∧ ns.getD (tau ns n) 0 = n := by
  have h1 : tau ns n < ns.length := List.idxOf_lt_length_iff.2 h
  refine ⟨h1, ?_⟩
  unfold tau at *
  simp [List.getD_eq_getElem?_getD,h1]
theorem StΦ.called {φ : Nat → Phys}{tmps : Array Value}{w w' : World} (hs : StΦ c nx env H φ tmps w) {ns : List Nat}{os : List Obj} (hh : Handed H ns os) {k' : Nat}{φ' φc : Nat → Phys}{Hr Hc : Heap}{r : PV}{v : Value}
    (hφc : φc = fun i => φ (ns.getD i 0)) (hHc : Hc = mkH 0 (os.map (renO (tau ns))))
    (hok : Ok φ' k' (fun b off => c.So b off ∨ Own φ (drops H ns) b off) Hr w') (hr : Rep φ' k' w' (SS (fun b off => c.So b off ∨ Own φ (drops H ns) b off) φ' Hr) r v)
    (hext : Ext w w' (Own φc Hc) (Own φ' Hr)) (hk : ns.length ≤ k') (hφ : ∀ n,n < ns.length → φ' n = φc n) (hd : Dist Hr)
    (hhas : ∀ n ob,(n,ob) ∈ Hr → hasO (fun _ => true) ob = true) (hhr : has (fun _ => true) r = true) :
    ∃ φ2,StΦ c (nx + (k' - ns.length)) env (renH (sig ns nx) Hr ++ drops H ns) φ2 tmps w' ∧
      Rep φ2 (nx + (k' - ns.length)) w' (SS c.So φ2 (renH (sig ns nx) Hr ++ drops H ns)) (ren (sig ns nx) r) v := by
  let φ2 : Nat → Phys := fun m => if m < nx then φ m else φ' (m - nx + ns.length)
  have hnsx : ∀ n,n ∈ ns → n < nx := by
    intro n hn
    obtain ⟨i,hi⟩ := List.getElem?_of_mem hn
    obtain ⟨o,_,h2⟩ := hh.obj i n hi
    exact (hs.ok.obj n o h2).1
  have hget : ∀ i,i < ns.length → ns.getD i 0 ∈ ns := by
    intro i hi
    simp [List.getD_eq_getElem?_getD,hi]
  have hsig : ∀ i,i < k' → φ2 (sig ns nx i) = φ' i ∧ sig ns nx i < nx + (k' - ns.length) := by
    intro i hi
    unfold sig
    by_cases hlt : i < ns.length
    · rw [if_pos hlt]
      have := hnsx _ (hget i hlt)
      refine ⟨?_,by omega⟩
      simp only [φ2]
      rw [if_pos this,hφ i hlt,hφc]
    · rw [if_neg hlt]
      refine ⟨?_,by omega⟩
      simp only [φ2]
      rw [if_neg (by omega)]
      congr 1; omega
  have hinj : ∀ i j,i < k' → j < k' → sig ns nx i = sig ns nx j → i = j := by
    intro i j hi hj e
    unfold sig at e
    by_cases h1 : i < ns.length
    · by_cases h2 : j < ns.length
      · rw [if_pos h1,if_pos h2] at e
        simp only [List.getD_eq_getElem?_getD,List.getElem?_eq_getElem h1,List.getElem?_eq_getElem h2,Option.getD_some] at e
        exact (List.getElem?_inj h1 hh.nodup).1 (by rw [List.getElem?_eq_getElem h1,List.getElem?_eq_getElem h2,e])
      · rw [if_pos h1,if_neg h2] at e
        have := hnsx _ (hget i h1); omega
    · by_cases h2 : j < ns.length
      · rw [if_neg h1,if_pos h2] at e
        have := hnsx _ (hget j h2); omega
      · rw [if_neg h1,if_neg h2] at e; omega
  have hlook : ∀ m o2,look (renH (sig ns nx) Hr ++ drops H ns) m = some o2 →
      (∃ i o1,look Hr i = some o1 ∧ i < k' ∧ m = sig ns nx i ∧ o2 = renO (sig ns nx) o1 ∧ φ2 m = φ' i) ∨ (m ∉ ns ∧ look H m = some o2 ∧ m < nx ∧ φ2 m = φ m) := by
    intro m o2 hm
    rw [look_append] at hm
    cases hA : look (renH (sig ns nx) Hr) m with
    | some oA =>
      rw [hA] at hm
      simp at hm
      subst hm
      obtain ⟨i,o1,a1,a2,a3⟩ := look_renH hA
      have hl := hd i o1 a1
      have hik := (hok.obj i o1 hl).1
      exact .inl ⟨i,o1,hl,hik,a2.symm,a3,by rw [← a2]; exact (hsig i hik).1⟩
    | none =>
      rw [hA] at hm
      simp at hm
      rw [look_drops] at hm
      split at hm
      · cases hm
      · rename_i hmn
        have := (hs.ok.obj m o2 hm).1
        exact .inr ⟨hmn,hm,this,by simp only [φ2]; rw [if_pos this]⟩
  have hback : ∀ i o1,look Hr i = some o1 → look (renH (sig ns nx) Hr ++ drops H ns) (sig ns nx i) = some (renO (sig ns nx) o1) := by
    intro i o1 hi
    rw [look_append]
    have hik := (hok.obj i o1 hi).1
    have : look (renH (sig ns nx) Hr) (sig ns nx i) = some (renO (sig ns nx) o1) := by
      cases hA : look (renH (sig ns nx) Hr) (sig ns nx i) with
      | some oA =>
        obtain ⟨j,o1',a1,a2,a3⟩ := look_renH hA
        have hl := hd j o1' a1
        have : j = i := hinj j i (hok.obj j o1' hl).1 hik a2
        subst this
        rw [hi] at hl; cases hl
        rw [a3]
      | none =>
        exfalso
        have hmem := look_mem hi
        have : ∀ L : Heap,(i,o1) ∈ L → look (renH (sig ns nx) L) (sig ns nx i) ≠ none := by
          intro L hL
          induction L with
          | nil => cases hL
          | cons p L ih =>
            obtain ⟨q,x⟩ := p
            simp only [renH,List.map_cons,look]
            split
            · simp
            · rename_i hq
              rcases List.mem_cons.1 hL with h|h
              · cases h; exact absurd rfl hq
              · exact ih h
        exact this Hr hmem hA
    rw [this]; rfl
  have hback2 : ∀ m o2,m ∉ ns → look H m = some o2 → look (renH (sig ns nx) Hr ++ drops H ns) m = some o2 := by
    intro m o2 hm hl
    rw [look_append]
    have hnone : look (renH (sig ns nx) Hr) m = none := by
      cases hA : look (renH (sig ns nx) Hr) m with
      | none => rfl
      | some oA =>
        exfalso
        obtain ⟨i,o1,a1,a2,a3⟩ := look_renH hA
        unfold sig at a2
        split at a2
        · rename_i hlt; rw [← a2] at hm; exact hm (hget i hlt)
        · have := (hs.ok.obj m o2 hl).1; omega
    rw [hnone,look_drops,if_neg hm]; simpa using hl
  have hOwn : ∀ b off,Own φ2 (renH (sig ns nx) Hr ++ drops H ns) b off ↔ (Own φ' Hr b off ∨ Own φ (drops H ns) b off) := by
    intro b off
    constructor
    · rintro ⟨m,o2,h1,h2,h3,h4⟩
      rcases hlook m o2 h1 with ⟨i,o1,k1,k2,rfl,rfl,k5⟩|⟨k1,k2,k3,k4⟩
      · rw [k5] at h2 h3 h4; rw [lim_renO] at h4
        exact .inl ⟨i,o1,k1,h2,h3,h4⟩
      · rw [k4] at h2 h3 h4
        exact .inr ⟨m,o2,by rw [look_drops,if_neg k1]; exact k2,h2,h3,h4⟩
    · rintro (⟨i,o1,h1,h2,h3,h4⟩|⟨m,o2,h1,h2,h3,h4⟩)
      · have hik := (hok.obj i o1 h1).1
        refine ⟨_,_,hback i o1 h1, ?_, ?_, ?_⟩
        · rw [(hsig i hik).1]; exact h2
        · rw [(hsig i hik).1]; exact h3
        · rw [(hsig i hik).1,lim_renO]; exact h4
      · rw [look_drops] at h1
        split at h1
        · cases h1
        · rename_i hmn
          have hlt := (hs.ok.obj m o2 h1).1
          have he : φ2 m = φ m := by simp only [φ2]; rw [if_pos hlt]
          exact ⟨m,o2,hback2 m o2 hmn h1,by rw [he]; exact h2,by rw [he]; exact h3,by rw [he]; exact h4⟩
  have hSS : ∀ b off,SS (fun b off => c.So b off ∨ Own φ (drops H ns) b off) φ' Hr b off ↔ SS c.So φ2 (renH (sig ns nx) Hr ++ drops H ns) b off := by
    intro b off
    simp only [SS]
    rw [hOwn]
    constructor
    · rintro ((h|h)|h)
      · exact .inl h
      · exact .inr (.inr h)
      · exact .inr (.inl h)
    · rintro (h|h|h)
      · exact .inl (.inl h)
      · exact .inr h
      · exact .inl (.inr h)
  have hOwnc : ∀ b off,Own φc Hc b off → Own φ H b off := by
    rintro b off ⟨i,o1,h1,h2,h3,h4⟩
    rw [hHc,look_mkH] at h1
    simp only [Nat.zero_le,if_true,Nat.sub_zero,List.getElem?_map,Option.map_eq_some_iff] at h1
    obtain ⟨o0,h5,rfl⟩ := h1
    have hlt : i < ns.length := by rw [← hh.len]; exact (List.getElem?_eq_some_iff.1 h5).1
    obtain ⟨o',h6,h7⟩ := hh.obj i ns[i] (by simp [hlt])
    rw [h6] at h5; cases h5
    have e : ns.getD i 0 = ns[i] := by simp [List.getD_eq_getElem?_getD,hlt]
    rw [hφc] at h2 h3 h4
    simp only [e,lim_renO] at h2 h3 h4
    exact ⟨_,_,h7,h2,h3,h4⟩
  have hE : Ext w w' (Own φ H) (Own φ2 (renH (sig ns nx) Hr ++ drops H ns)) := by
    refine ⟨hext.os,hext.tape,hext.output,hext.size,fun b hb hO => hext.blk b hb fun off ho => hO off (hOwnc b off ho),fun b off hb hO => hext.cell b off hb fun ho => hO (hOwnc b off ho), ?_⟩
    intro b off hb hO
    rcases (hOwn b off).1 hO with h|⟨m,o2,h1,h2⟩
    · exact hOwnc b off (hext.own b off hb h)
    · rw [look_drops] at h1
      split at h1
      · cases h1
      · exact ⟨m,o2,h1,h2⟩
  have hall : ∀ n,n < k' → (fun _ : Nat => true) n = true → φ2 (sig ns nx n) = φ' n ∧ sig ns nx n < nx + (k' - ns.length) := fun n hn _ => hsig n hn
  refine ⟨φ2,hs.next (fun n hn => by simp only [φ2]; rw [if_pos hn]) (Nat.le_add_right _ _) ?_ hE, ?_⟩
  · refine ⟨fun m o2 hm => ?_,fun a b o1 o2 h1 h2 hne n1 n2 => ?_,fun m o2 hm hmn off hso => ?_⟩
    · rcases hlook m o2 hm with ⟨i,o1,k1,k2,rfl,rfl,k5⟩|⟨k1,k2,k3,k4⟩
      · exact ⟨(hsig i k2).2,(hok.obj i o1 k1).2.ren hall hSS k5 (hhas i o1 (look_mem k1))⟩
      · have ks := (hs.ok.obj m o2 k2).2
        have hmono : Mono w (SS c.So φ H) w' (SS c.So φ2 (renH (sig ns nx) Hr ++ drops H ns)) := hE.mono
        refine ⟨by omega,ks.step (fun n hn => by simp only [φ2]; rw [if_pos hn]) (Nat.le_add_right _ _) hmono k3 fun hf => ?_⟩
        refine hext.blk _ (ks.lt hf) fun off ho => ?_
        rw [hHc,hφc] at ho
        obtain ⟨i,o1,h1,h2,h3,h4⟩ := ho
        rw [look_mkH] at h1
        simp only [Nat.zero_le,if_true,Nat.sub_zero,List.getElem?_map,Option.map_eq_some_iff] at h1
        obtain ⟨o0,h5,rfl⟩ := h1
        have hlt : i < ns.length := by rw [← hh.len]; exact (List.getElem?_eq_some_iff.1 h5).1
        obtain ⟨o',h6,h7⟩ := hh.obj i ns[i] (by simp [hlt])
        have e : ns.getD i 0 = ns[i] := by simp [List.getD_eq_getElem?_getD,hlt]
        simp only [e] at h2 h3
        exact hs.ok.dis ns[i] m o' o2 h7 k2 (fun e => k1 (by rw [← e]; simp)) h2 hf h3
    · rcases hlook a o1 h1 with ⟨i,oi,k1,k2,rfl,rfl,k5⟩|⟨k1,k2,k3,k4⟩
      · rcases hlook b o2 h2 with ⟨j,oj,j1,j2,rfl,rfl,j5⟩|⟨j1,j2,j3,j4⟩
        · rw [k5] at n1 ⊢; rw [j5] at n2 ⊢
          exact hok.dis i j oi oj k1 j1 (fun e => hne (by rw [e])) n1 n2
        · rw [k5] at n1 ⊢; rw [j4] at n2 ⊢
          intro e
          exact hok.out i oi k1 n1 (lim (φ b) o2) (.inr ⟨b,o2,by rw [look_drops,if_neg j1]; exact j2,n2,e.symm,Nat.le_refl _⟩)
      · rcases hlook b o2 h2 with ⟨j,oj,j1,j2,rfl,rfl,j5⟩|⟨j1,j2,j3,j4⟩
        · rw [k4] at n1 ⊢; rw [j5] at n2 ⊢
          intro e
          exact hok.out j oj j1 n2 (lim (φ a) o1) (.inr ⟨a,o1,by rw [look_drops,if_neg k1]; exact k2,n1,e,Nat.le_refl _⟩)
        · rw [k4] at n1 ⊢; rw [j4] at n2 ⊢
          exact hs.ok.dis a b o1 o2 k2 j2 hne n1 n2
    · rcases hlook m o2 hm with ⟨i,o1,k1,k2,rfl,rfl,k5⟩|⟨k1,k2,k3,k4⟩
      · rw [k5] at hmn hso
        exact hok.out i o1 k1 hmn off (.inl hso)
      · rw [k4] at hmn hso
        exact hs.ok.out m o2 k2 hmn off hso
  · have := hr.ren hall hhr
    have e : SS (fun b off => c.So b off ∨ Own φ (drops H ns) b off) φ' Hr = SS c.So φ2 (renH (sig ns nx) Hr ++ drops H ns) := by funext b off; exact propext (hSS b off)
    rw [e] at this
    exact this
end
section
variable {P : Program}{tab : Tab}{c : Ctx}{nx : Nat}{env : Env}{H H' : Heap}{K : PV → Nat → Heap → Prop}{o : Oper}
def nilFit (H : Heap) : Kd → PV → Bool → Prop
  | .ptr _,.ptr ..,b => b = false
  | .ptr _,.ep ..,b => b = false
  | .ptr _,.f (.ro _),b => b = false
  | .slice _,.f (.sl _ _ l),b => l ≠ [] → b = false
  | .slice _,.ref n lo hi,b => ∃ wr sz l,look H n = some (.buf wr sz l) ∧ (view lo hi l ≠ [] → b = false)
  | .func,.clo ..,b => b = false
  | .func,.f (.v .nilFunc),b => b = true
  | _,_,_ => False
def nilGuess (H : Heap) : Kd → PV → Prop
  | .ptr _,.ptr ..|.ptr _,.ep ..|.ptr _,.f (.ro _)|.slice _,.f (.sl ..)|.func,.clo ..|.func,.f (.v .nilFunc) => True
  | .slice _,.ref n _ _ => ∃ wr sz l,look H n = some (.buf wr sz l)
  | _,_ => False
def stepNil (tab : Tab) (env : Env) (H : Heap) (nx : Nat) (K : PV → Nat → Heap → Prop) (op : BinOp) (t : Nat) (x y : Operand) : Prop :=
  ∃ i pv,tab t = some i ∧ ev env x = some pv ∧ nilGuess H i.kd pv ∧
    ((∃ e,i.kd = .ptr e ∧ y = .const (.pointer none)) ∨ (∃ e,i.kd = .slice e ∧ y = .const (.slice none 0 0)) ∨ (i.kd = .func ∧ y = .const .nilFunc)) ∧
    ((op = .eql ∧ ∀ b,nilFit H i.kd pv b → K (.f (.v (.bool b))) nx H) ∨ (op = .neq ∧ ∀ b,nilFit H i.kd pv b → K (.f (.v (.bool (!b)))) nx H))
theorem exec_cmp {op : BinOp}{t u : Nat}{x y : Operand}{tmps : Array Value}{w : World}{a b : Value}{r : Bool} (ho : o.op = .binOp op t x y u) (ha : (act tmps).eval x = a) (hb : (act tmps).eval y = b)
    (hg : (eqGuard op t x y a b).run P w = .ok () w) (he : (Op.equalIn (9999 + 1) t a b).run P w = .ok r w)
    (h1 : op = .eql → binOp .eql t a b = do pure (.bool (← Op.equal t a b))) (h2 : op = .neq → binOp .neq t a b = do pure (.bool (!(← Op.equal t a b)))) (hop : op = .eql ∨ op = .neq) :
    (execOp (act tmps).eval o).run P w = .ok (.value (.bool (if op = .eql then r else !r))) w := by
  simp only [execOp,ho,ha,hb]
  rcases hop with rfl|rfl
  · simp only [Sem.run_bind,hg,Result.andThen_ok,run_eql_of w (h1 rfl) he,Sem.run_pure]; simp
  · simp only [Sem.run_bind,hg,Result.andThen_ok,run_neq_of w (h2 rfl) he,Sem.run_pure]; simp
theorem run_equalIn_fnnil {t : Nat}{fn : Fn}{xs ys : Array Value} (d : Nat) (w : World) (h : ∃ a b c,P.underlying t = some (.func a b c)) : (Op.equalIn (d + 1) t (.func fn xs ys) .nilFunc).run P w = .ok false w := by
  obtain ⟨a,b,c,h⟩ := h
  simp [Op.equalIn,run_underlying h]
theorem run_equalIn_nilnil {t : Nat} (d : Nat) (w : World) (h : ∃ a b c,P.underlying t = some (.func a b c)) : (Op.equalIn (d + 1) t .nilFunc .nilFunc).run P w = .ok true w := by
  obtain ⟨a,b,c,h⟩ := h
  simp [Op.equalIn,run_underlying h]
theorem does_nil (ht : TabOk P tab) {op : BinOp}{t u : Nat}{x y : Operand} (ho : o.op = .binOp op t x y u) (h : stepNil tab env H nx K op t x y) : Does P o c nx env H K :=
  Does.pure fun φ tmps w hs => by
    obtain ⟨i,pv,hi,h1,hgu,hy,h⟩ := h
    have hu := (ht t i hi).under
    have hr := ev_rep hs h1
    have hop : op = .eql ∨ op = .neq := by rcases h with ⟨h,_⟩|⟨h,_⟩ <;> simp [h]
    have fin : ∀ r : Bool,nilFit H i.kd pv r → ∃ p,K p nx H ∧ Rep φ nx w (SS c.So φ H) p (.bool (if op = .eql then r else !r)) := by
      intro r hf
      rcases h with ⟨rfl,h⟩|⟨rfl,h⟩
      · exact ⟨_,h r hf,by simpa using Rep.f (.v (.bool r))⟩
      · exact ⟨_,h r hf,by simpa using Rep.f (.v (.bool (!r)))⟩
    have step : ∀ (r : Bool) (a b : Value),(act tmps).eval x = a → (act tmps).eval y = b → (∀ w,(eqGuard op t x y a b).run P w = .ok () w) → (Op.equalIn (9999 + 1) t a b).run P w = .ok r w →
        (binOp .eql t a b = do pure (.bool (← Op.equal t a b))) → (binOp .neq t a b = do pure (.bool (!(← Op.equal t a b)))) → nilFit H i.kd pv r →
        ∃ pv v,(execOp (act tmps).eval o).run P w = .ok (.value v) w ∧ K pv nx H ∧ Rep φ nx w (SS c.So φ H) pv v := by
      intro r a b ha hb hg he e1 e2 hf
      obtain ⟨p,k1,k2⟩ := fin r hf
      exact ⟨p,_,exec_cmp ho ha hb (hg w) he (fun _ => e1) (fun _ => e2) hop,k1,k2⟩
    generalize hv : (act tmps).eval x = v at hr step
    rcases hy with ⟨e,hk,rfl⟩|⟨e,hk,rfl⟩|⟨hk,rfl⟩
    · rw [hk] at hu hgu
      simp only [Under] at hu
      have hp : ∀ A : Addr,v = .pointer (some A) → ∃ pv v,(execOp (act tmps).eval o).run P w = .ok (.value v) w ∧ K pv nx H ∧ Rep φ nx w (SS c.So φ H) pv v := by
        intro A hA
        subst hA
        refine step false _ (.pointer none) rfl rfl (fun w => run_eqGuard_plain w rfl) (run_equalIn_ptrnil 9999 w hu) rfl rfl ?_
        rw [hk]
        cases pv <;> simp only [nilGuess] at hgu <;> first|rfl|exact hgu.elim|skip
        rename_i x; cases x <;> simp only [nilGuess] at hgu <;> first|rfl|exact hgu.elim
      cases hr with
      | ptr _ => exact hp _ rfl
      | ep _ _ _ => exact hp _ rfl
      | f hf => cases hf <;> simp only [nilGuess] at hgu <;> first|exact hgu.elim|exact hp _ rfl
      | _ => exact hgu.elim
    · rw [hk] at hu hgu
      simp only [Under] at hu
      have hsome : ∀ (A : Addr) y z,v = .slice (some A) y z → nilFit H (.slice e) pv false → ∃ pv v,(execOp (act tmps).eval o).run P w = .ok (.value v) w ∧ K pv nx H ∧ Rep φ nx w (SS c.So φ H) pv v := by
        intro A y z hA hf
        subst hA
        refine step false _ (.slice none 0 0) rfl rfl (fun w => run_eqGuard_plain w rfl) (run_equalIn_slnil 9999 w hu) rfl rfl ?_
        rw [hk]; exact hf
      have hnone : v = .slice none 0 0 → nilFit H (.slice e) pv true → ∃ pv v,(execOp (act tmps).eval o).run P w = .ok (.value v) w ∧ K pv nx H ∧ Rep φ nx w (SS c.So φ H) pv v := by
        intro hA hf
        subst hA
        refine step true _ (.slice none 0 0) rfl rfl (fun w => run_eqGuard_plain w rfl) (run_equalIn_nilsl 9999 w hu) rfl rfl ?_
        rw [hk]; exact hf
      cases hr with
      | f hf =>
        cases hf with
        | slnil sz cl => exact hnone rfl (by simp [nilFit])
        | slemp sz cl A => exact hsome A _ _ rfl (by simp [nilFit])
        | sl sz cl l b off cap val => exact hsome _ _ _ rfl (by simp [nilFit])
        | _ => exact hgu.elim
      | @refnil n hi hn1 hn2 hn3 hn4 =>
        obtain ⟨wr,sz,l,hl⟩ := hgu
        obtain ⟨o1,o2,o3⟩ := (hs.ok.obj _ _ hl).2
        have : l = [] := by
          have := o1.symm.trans hn3
          exact List.length_eq_zero_iff.1 this
        subst this
        refine hnone rfl ?_
        refine ⟨wr,sz,[],hl,fun hne => ?_⟩
        cases hi <;> simp [view] at hne
      | ref a1 a2 a3 a4 a5 a6 a7 =>
        obtain ⟨wr,sz,l,hl⟩ := hgu
        exact hsome _ _ _ rfl ⟨wr,sz,l,hl,fun _ => rfl⟩
      | _ => exact hgu.elim
    · rw [hk] at hu hgu
      cases hr with
      | clo fn cs vs _ _ =>
        refine step false _ .nilFunc rfl rfl (fun w => run_eqGuard_plain w rfl) (run_equalIn_fnnil 9999 w hu) rfl rfl ?_
        rw [hk]; rfl
      | f hf =>
        cases hf with
        | v =>
          cases v <;> simp only [nilGuess] at hgu <;> first|exact hgu.elim|skip
          refine step true .nilFunc .nilFunc rfl rfl (fun w => run_eqGuard_plain w rfl) (run_equalIn_nilnil 9999 w hu) rfl rfl ?_
          rw [hk]; rfl
        | _ => exact hgu.elim
      | _ => exact hgu.elim
def SEq (P : Program) (t : Nat) (fs : List (Nat × Nat)) : Prop :=
  ∃ F : Array Field,P.underlying t = some (.struct F) ∧ F.toList.map (fun f => (f.offset,f.type)) = fs ∧ (F.toList.all fun f => f.name != "_") = true ∧ P.stoodInHeld t = false ∧ P.eqGuardType P.depth t = false
def eqV : Kd → FV → FV → Option Bool
  | .int k,.v (.int k1 a),.v (.int k2 b) => if k1 = k2 then some (decide (a = b)) else none
  | .bool,.v (.bool a),.v (.bool b) => some (a == b)
  | .str,.v (.string a),.v (.string b) => some (a.toList == b.toList)
  | _,_,_ => none
def eqFs (tab : Tab) (cs ds : List FV) : List (Nat × Nat) → Option Bool
  | [] => some true
  | (off,ft) :: t =>
    match tab ft with
    | some i => if i.size = 1 then match eqV i.kd (cs.getD off (.v undef)) (ds.getD off (.v undef)),eqFs tab cs ds t with
      | some a,some b => some (a && b)
      | _,_ => none else none
    | none => none
def stepEqS (P : Program) (tab : Tab) (env : Env) (H : Heap) (nx : Nat) (K : PV → Nat → Heap → Prop) (op : BinOp) (t : Nat) (x y : Operand) : Prop :=
  ∃ fs cs ds r,SEq P t fs ∧ ev env x = some (.f (.agg cs)) ∧ ev env y = some (.f (.agg ds)) ∧ cs.length = ds.length ∧ (fs.all fun p => decide (p.1 < cs.length)) = true ∧ eqFs tab cs ds fs = some r ∧
    ((op = .eql ∧ K (.f (.v (.bool r))) nx H) ∨ (op = .neq ∧ K (.f (.v (.bool (!r)))) nx H))
theorem run_eqV (ht : TabOk P tab) {t : Nat}{i : TI} (hi : tab t = some i) {x y : FV}{r : Bool}{w : World}{S : Nat → Nat → Prop}{a b : Value} (h : eqV i.kd x y = some r) (hx : RepF w S x a) (hy : RepF w S y b) (d : Nat) :
    (Op.equalIn (d + 1) t a b).run P w = .ok r w := by
  have hu := (ht t i hi).under
  unfold eqV at h
  split at h
  · rename_i k k1 p k2 q hk
    rw [hk] at hu; simp only [Under] at hu
    cases hx; cases hy
    split at h
    · rename_i e; subst e; cases h
      rw [run_equalIn_int w d t k1 k p q hu]
      congr 1
    · cases h
  · rename_i p q hk
    rw [hk] at hu; simp only [Under] at hu
    cases hx; cases hy; cases h
    exact run_equalIn_bool' w d t p q hu
  · rename_i p q hk
    rw [hk] at hu; simp only [Under] at hu
    cases hx; cases hy; cases h
    exact run_equalIn_string w d t p q hu
  · cases h
theorem run_eqFs (ht : TabOk P tab) {cs ds : List FV}{xs ys : Array Value}{w : World}{S : Nat → Nat → Prop} (hx : RepF w S (.agg cs) (.agg xs)) (hy : RepF w S (.agg ds) (.agg ys)) (d : Nat) :
    ∀ (F : List Field) (r : Bool),(F.all fun f => f.name != "_") = true → ((F.map fun f => (f.offset,f.type)).all fun p => decide (p.1 < cs.length) && decide (p.1 < ds.length)) = true →
      eqFs tab cs ds (F.map fun f => (f.offset,f.type)) = some r → (Op.eqFields (d + 1) xs ys F).run P w = .ok r w
  | [],r,_,_,h => by simp only [List.map_nil,eqFs] at h; cases h; simp [Op.eqFields]
  | f :: F,r,hn,hl,h => by
    simp only [List.map_cons,eqFs] at h
    simp only [List.all_cons,Bool.and_eq_true,bne_iff_ne,ne_eq] at hn
    simp only [List.map_cons,List.all_cons,Bool.and_eq_true,decide_eq_true_eq] at hl
    cases hi : tab f.type with
    | none => rw [hi] at h; cases h
    | some i =>
      rw [hi] at h
      simp only at h
      split at h
      rotate_left
      · cases h
      rename_i hsz
      split at h
      rotate_left
      · cases h
      rename_i a b h1 h2
      cases h
      have ih := run_eqFs ht hx hy d F b (by simpa using hn.2) hl.2 h2
      cases hx with
      | agg _ _ x1 x2 x3 =>
        cases hy with
        | agg _ _ y1 y2 y3 =>
          have hxl : f.offset < xs.size := by rw [x1]; exact hl.1.1
          have hyl : f.offset < ys.size := by rw [y1]; exact hl.1.2
          have e1 : cs.getD f.offset (.v undef) = cs[f.offset]'hl.1.1 := by rw [List.getD_eq_getElem?_getD,List.getElem?_eq_getElem hl.1.1]; rfl
          have e2 : ds.getD f.offset (.v undef) = ds[f.offset]'hl.1.2 := by rw [List.getD_eq_getElem?_getD,List.getElem?_eq_getElem hl.1.2]; rfl
          rw [e1,e2] at h1
          have hrx := x3 f.offset _ xs[f.offset] (List.getElem?_eq_getElem hl.1.1) (by simp [hxl])
          have hry := y3 f.offset _ ys[f.offset] (List.getElem?_eq_getElem hl.1.2) (by simp [hyl])
          have hq := run_eqV ht hi h1 hrx hry d
          obtain ⟨ti,z,j1,j2,j3,j4,j5,j6⟩ := (ht f.type i hi).info
          have hagg : i.kd.agg = false := by
            unfold eqV at h1
            split at h1 <;> first|(cases h1; done)|simp_all [Kd.agg]
          have hpart : ∀ (vs : Array Value) (hlt : f.offset < vs.size),(part f.type vs f.offset).run P w = .ok vs[f.offset] w := by
            intro vs hlt
            simp only [part,Sem.run_bind,run_isAgg ht hi,Result.andThen_ok,hagg]
            simp [hlt]
          simp only [Op.eqFields,if_pos hn.1,Sem.run_bind,hpart xs hxl,hpart ys hyl,hq,Result.andThen_ok]
          cases a with
          | false => simp
          | true => simpa using ih
theorem does_eqS (ht : TabOk P tab) {op : BinOp}{t u : Nat}{x y : Operand} (ho : o.op = .binOp op t x y u) (h : stepEqS P tab env H nx K op t x y) : Does P o c nx env H K :=
  Does.pure fun φ tmps w hs => by
    obtain ⟨fs,cs,ds,r,⟨F,f1,f2,f3,f4,f5⟩,h1,h2,hl,hlt,h3,h⟩ := h
    have hr1 := ev_rep hs h1
    have hr2 := ev_rep hs h2
    generalize hv1 : (act tmps).eval x = v1 at hr1
    generalize hv2 : (act tmps).eval y = v2 at hr2
    cases hr1 with
    | f hr1 => cases hr2 with
      | f hr2 =>
        cases hr1 with
        | agg _ xs a1 a2 a3 =>
          cases hr2 with
          | agg _ ys b1 b2 b3 =>
            have hfo : P.fieldsOf t = F := by simp [Program.fieldsOf,f1]
            have he : (Op.equalIn (9999 + 1) t (.agg xs) (.agg ys)).run P w = .ok r w := by
              rw [run_equalIn_struct (P := P) w 9999 t xs ys (by rw [hfo]; exact f1) f4,hfo]
              refine run_eqFs ht (.agg cs xs a1 a2 a3) (.agg ds ys b1 b2 b3) 9998 F.toList r f3 ?_ (by rw [f2]; exact h3)
              rw [f2]
              rw [List.all_eq_true] at hlt ⊢
              intro p hp
              have := hlt p hp
              simp only [decide_eq_true_eq] at this
              simp [this,hl ▸ this]
            have hop : op = .eql ∨ op = .neq := by rcases h with ⟨h,_⟩|⟨h,_⟩ <;> simp [h]
            have hx := exec_cmp ho hv1 hv2 (run_eqGuard_agg (P := P) w op t x y xs ys f5) he (fun _ => rfl) (fun _ => rfl) hop
            rcases h with ⟨rfl,h⟩|⟨rfl,h⟩
            · exact ⟨_,_,hx,h,by simpa using Rep.f (.v (.bool r))⟩
            · exact ⟨_,_,hx,h,by simpa using Rep.f (.v (.bool (!r)))⟩
def intsOf : List PV → Option (List Int)
  | [] => some []
  | .f (.v (.int _ n)) :: t => (intsOf t).map (n :: ·)
  | _ :: _ => none
def stepMM (env : Env) (H : Heap) (nx : Nat) (K : PV → Nat → Heap → Prop) (b : Builtin) (xs : List Operand) : Prop :=
  ∃ k p qs ns,evs env xs = some (.f (.v (.int k p)) :: qs) ∧ intsOf qs = some ns ∧
    ((b = .max ∧ K (.f (.v (.int k (ns.foldl max p)))) nx H) ∨ (b = .min ∧ K (.f (.v (.int k (ns.foldl min p)))) nx H))
theorem run_mmf {P : Program}{nx : Nat}{b : Bool}{w : World}{φ : Nat → Phys}{S : Nat → Nat → Prop}{k : IntKind} : ∀ (qs : List PV) (ns : List Int) (us : List Value) (p : Int),intsOf qs = some ns → us.length = qs.length →
    (∀ (i : Nat) q u,qs[i]? = some q → us[i]? = some u → Rep φ nx w S q u) →
    (us.foldlM (if b then Builtin.max2 else Builtin.min2) (.int k p)).run P w = .ok (.int k (ns.foldl (if b then max else min) p)) w
  | [],ns,us,p,h,hl,_ => by
    simp only [intsOf] at h; cases h
    have : us = [] := List.length_eq_zero_iff.1 hl
    subst this; simp
  | x :: qs,ns,us,p,h,hl,hr => by
    cases us with
    | nil => simp at hl
    | cons u us =>
      unfold intsOf at h
      split at h
      · rename_i heq; cases heq
      · rename_i kk n t heq
        cases heq
        cases hq : intsOf qs with
        | none => rw [hq] at h; cases h
        | some ms =>
          rw [hq] at h
          cases h
          have e := (hr 0 _ u rfl rfl).v_inv
          subst e
          have ih := run_mmf (P := P) (b := b) (k := k) qs ms us (if b then max p n else min p n) hq (by simpa using hl) (fun i q v h1 h2 => hr (i + 1) q v (by simpa using h1) (by simpa using h2))
          have hstep : ((if b then Builtin.max2 else Builtin.min2) (.int k p) (.int kk n)).run P w = .ok (.int k (if b then max p n else min p n)) w := by
            cases b with
            | true => simp only [if_true,Builtin.max2,Sem.run_pure]; congr 2; rw [Int.max_def]; split <;> split <;> omega
            | false => simp only [Bool.false_eq_true,if_false,Builtin.min2,Sem.run_pure]; congr 2; rw [Int.min_def]; split <;> split <;> omega
          simp only [List.foldlM_cons,Sem.run_bind,hstep,Result.andThen_ok,List.foldl_cons]
          rw [ih]
          cases b <;> rfl
      · cases h
theorem does_mm {b : Builtin}{xs : List Operand}{ts : Array Nat} (ho : o.op = .call { callee := .builtin b,args := xs.toArray,argTypes := ts }) (h : stepMM env H nx K b xs) : Does P o c nx env H K :=
  Does.pure fun φ tmps w hs => by
    obtain ⟨k,p,qs,ns,h1,h2,h⟩ := h
    obtain ⟨a1,a2⟩ := evs_get hs h1
    cases xs with
    | nil => simp at a1
    | cons x xs =>
      have e0 : (act tmps).eval x = .int k p := by
        obtain ⟨y,y1,y2⟩ := a2 0 _ rfl
        simp at y1; subst y1
        exact y2.v_inv
      have hrep : ∀ (i : Nat) q u,qs[i]? = some q → (xs.map (act tmps).eval)[i]? = some u → Rep φ nx w (SS c.So φ H) q u := by
        intro i q u hq hu
        obtain ⟨y,y1,y2⟩ := a2 (i + 1) q (by simpa using hq)
        simp only [List.getElem?_cons_succ] at y1
        simp only [List.getElem?_map,y1,Option.map_some,Option.some.injEq] at hu
        rw [← hu]; exact y2
      have hlen : (xs.map (act tmps).eval).length = qs.length := by simpa using a1.symm
      rcases h with ⟨rfl,h⟩|⟨rfl,h⟩
      · refine ⟨_,_, ?_,h,.f (.v _)⟩
        have := run_mmf (P := P) (b := true) (k := k) qs ns _ p h2 hlen hrep
        simp only [if_true] at this
        simp only [execOp,ho,resolve,Sem.run_bind,Sem.run_pure,Result.andThen_ok,invoke,builtin]
        simp [Builtin.max_,e0]
        first|(rw [this]; done)|(simp [this])|skip
      · refine ⟨_,_, ?_,h,.f (.v _)⟩
        have := run_mmf (P := P) (b := false) (k := k) qs ns _ p h2 hlen hrep
        simp only [Bool.false_eq_true,if_false] at this
        simp only [execOp,ho,resolve,Sem.run_bind,Sem.run_pure,Result.andThen_ok,invoke,builtin]
        simp [Builtin.min_,e0]
        first|(rw [this]; done)|(simp [this])|skip
end
section
variable {P : Program}{tab : Tab}{c : Ctx}{nx : Nat}{env : Env}{H H' : Heap}{K : PV → Nat → Heap → Prop}{o : Oper}
def pass1 (H : Heap) (p : PV) : PV × Heap := match frz H p with|some (y,H') => (.f y,H')|none => (p,H)
def passes (ns : List Nat) (H : Heap) : List PV → List PV × Heap
  | [] => ([],H)
  | x :: t => if has (fun n => ns.contains n) x then (x :: (passes ns H t).1,(passes ns H t).2) else ((pass1 H x).1 :: (passes ns (pass1 H x).2 t).1,(passes ns (pass1 H x).2 t).2)
def allArgs (ps caps : List PV) : List PV := ps ++ caps
theorem pass1_ok {φ : Nat → Phys}{tmps : Array Value}{w : World} (hs : StΦ c nx env H φ tmps w) (p : PV) :
    StΦ c nx env (pass1 H p).2 φ tmps w ∧ Less c φ w H (pass1 H p).2 ∧ ∀ v,Rep φ nx w (SS c.So φ H) p v → Rep φ nx w (SS c.So φ (pass1 H p).2) (pass1 H p).1 v := by
  unfold pass1
  split
  · rename_i y H' h
    obtain ⟨a,b,d⟩ := frz_ok hs h
    exact ⟨a,b,fun v hr => .f (d v hr)⟩
  · exact ⟨hs,Mono.refl _ _,fun v hr => hr⟩
theorem passes_ok {φ : Nat → Phys}{tmps : Array Value}{w : World}{ns : List Nat} : ∀ {ps : List PV}{H : Heap},StΦ c nx env H φ tmps w →
    StΦ c nx env (passes ns H ps).2 φ tmps w ∧ Less c φ w H (passes ns H ps).2 ∧ (passes ns H ps).1.length = ps.length ∧
      ∀ (i : Nat) p v,ps[i]? = some p → Rep φ nx w (SS c.So φ H) p v → ∃ q,(passes ns H ps).1[i]? = some q ∧ Rep φ nx w (SS c.So φ (passes ns H ps).2) q v
  | [],H,hs => ⟨hs,Mono.refl _ _,rfl,fun i p v h => by simp at h⟩
  | x :: t,H,hs => by
    simp only [passes]
    split
    · obtain ⟨a1,a2,a3,a4⟩ := passes_ok (ns := ns) (ps := t) hs
      refine ⟨a1,a2,by simp [a3],fun i p v hp hr => ?_⟩
      cases i with
      | zero => simp at hp; subst hp; exact ⟨x,rfl,hr.step (fun _ _ => rfl) (Nat.le_refl _) a2⟩
      | succ i => simpa using a4 i p v (by simpa using hp) hr
    · obtain ⟨b1,b2,b3⟩ := pass1_ok hs x
      obtain ⟨a1,a2,a3,a4⟩ := passes_ok (ns := ns) (ps := t) b1
      refine ⟨a1,b2.trans a2,by simp [a3],fun i p v hp hr => ?_⟩
      cases i with
      | zero => simp at hp; subst hp; exact ⟨_,rfl,(b3 v hr).step (fun _ _ => rfl) (Nat.le_refl _) a2⟩
      | succ i => simpa using a4 i p v (by simpa using hp) (hr.step (fun _ _ => rfl) (Nat.le_refl _) b2)
def Tidy (r : PV) (Hr : Heap) : Prop := Dist Hr ∧ (∀ n ob,(n,ob) ∈ Hr → hasO (fun _ => true) ob = true) ∧ has (fun _ => true) r = true
def stepCall (P : Program) (env : Env) (H : Heap) (nx : Nat) (K : PV → Nat → Heap → Prop) (f : Operand) (args : List Operand) : Prop :=
  ∃ g caps ps ns os,ev env f = some (.clo (.func g) caps) ∧ evs env args = some ps ∧ Handed (passes ns H (allArgs ps caps)).2 ns os ∧
    (∀ (i : Nat) n,ns[i]? = some n → n < nx) ∧
    ((passes ns H (allArgs ps caps)).1.all (has fun n => ns.contains n)) = true ∧ (os.all (hasO fun n => ns.contains n)) = true ∧
    T P g ((passes ns H (allArgs ps caps)).1.map (ren (tau ns))) ns.length (mkH 0 (os.map (renO (tau ns)))) fun r k' Hr =>
      Tidy r Hr ∧ K (ren (sig ns nx) r) (nx + (k' - ns.length)) (renH (sig ns nx) Hr ++ drops (passes ns H (allArgs ps caps)).2 ns)
theorem exec_call {f : Operand}{args : Array Operand}{ts : Array Nat}{tmps : Array Value}{w : World}{g : Nat}{vs : Array Value} (ho : o.op = .call { callee := .value f,args,argTypes := ts })
    (hf : (act tmps).eval f = .func (.func g) #[] vs) (hc : Callable P g) : (execOp (act tmps).eval o).run P w = .ok (.enter g (args.map (act tmps).eval ++ vs)) w := by
  obtain ⟨fn,h1,h2,h3⟩ := hc
  have hb : fn.body.isNone = false := by cases hq : fn.body <;> simp_all
  simp only [execOp,ho,resolve,hf,Deferred.ofValue]
  simp only [Sem.run_bind,Sem.run_pure,Result.andThen_ok,invoke,callFunc,run_program,h1,h3,hb,Bool.false_eq_true,if_false]
  simp
theorem does_call {f : Operand}{args : Array Operand}{ts : Array Nat} (ho : o.op = .call { callee := .value f,args,argTypes := ts }) (h : stepCall P env H nx K f args.toList) : Does P o c nx env H K := by
  intro φ tmps w hs next Q hn
  obtain ⟨g,caps,ps,ns,os,h1,h2,h3,h3',h4,h5,h6⟩ := h
  have hf := ev_rep hs h1
  generalize hv : (act tmps).eval f = v at hf
  cases hf with
  | clo _ _ vs e1 e2 =>
    obtain ⟨a1,a2⟩ := evs_get hs h2
    obtain ⟨b1,b2,b3,b4⟩ := passes_ok (ns := ns) (ps := allArgs ps caps) hs
    unfold Oper.wp
    rw [exec_call ho hv h6.1,Oper.upon_enter]
    have hsz : (args.map (act tmps).eval ++ vs).size = (passes ns H (allArgs ps caps)).1.length := by
      rw [b3]; simp [allArgs,a1,e1]
    have hmem : ∀ n,n < nx → (fun n => ns.contains n) n = true → (fun i => φ (ns.getD i 0)) (tau ns n) = φ n ∧ tau ns n < ns.length := by
      intro n _ hn
      have hm : n ∈ ns := by simpa using hn
      obtain ⟨c1,c2⟩ := tau_mem hm
      exact ⟨by simp only [c2],c1⟩
    generalize hH1 : (passes ns H (allArgs ps caps)).2 = H1 at *
    have hlowSo : ∀ b off,(c.So b off ∨ Own φ (drops H1 ns) b off) → b < w.heap.size := by
      rintro b off (hso|⟨n,ob,m1,m2,m3,m4⟩)
      · exact Nat.lt_of_lt_of_le (c.low _ _ hso) b1.ext.size
      · rw [look_drops] at m1
        split at m1
        · cases m1
        · rw [← m3]; exact (b1.ok.obj n ob m1).2.lt m2
    have hlookc : ∀ i ob,look (mkH 0 (os.map (renO (tau ns)))) i = some ob → ∃ n o1,ns[i]? = some n ∧ look H1 n = some o1 ∧ os[i]? = some o1 ∧ ob = renO (tau ns) o1 := by
      intro i ob hi
      rw [look_mkH] at hi
      simp only [Nat.zero_le,if_true,Nat.sub_zero,List.getElem?_map,Option.map_eq_some_iff] at hi
      obtain ⟨o0,i1,rfl⟩ := hi
      have hlt : i < ns.length := by rw [← h3.len]; exact (List.getElem?_eq_some_iff.1 i1).1
      obtain ⟨o',i2,i3⟩ := h3.obj i ns[i] (by simp [hlt])
      rw [i2] at i1; cases i1
      exact ⟨ns[i],_,by simp [hlt],i3,i2,rfl⟩
    have hgetD : ∀ (i : Nat) n,ns[i]? = some n → ns.getD i 0 = n := fun i n h => by simp [List.getD_eq_getElem?_getD,h]
    have hSS : ∀ b off,SS c.So φ H1 b off ↔ SS (fun b off => c.So b off ∨ Own φ (drops H1 ns) b off) (fun i => φ (ns.getD i 0)) (mkH 0 (os.map (renO (tau ns)))) b off := by
      intro b off
      constructor
      · rintro (hso|⟨n,ob,m1,m2,m3,m4⟩)
        · exact .inl (.inl hso)
        · by_cases hm : n ∈ ns
          · obtain ⟨i,hi⟩ := List.getElem?_of_mem hm
            obtain ⟨o',i2,i3⟩ := h3.obj i n hi
            rw [m1] at i3; cases i3
            refine .inr ⟨i,renO (tau ns) ob,by rw [look_mkH]; simp [i2], ?_, ?_, ?_⟩
            · simp only [hgetD i n hi]; exact m2
            · simp only [hgetD i n hi]; exact m3
            · simp only [hgetD i n hi,lim_renO]; exact m4
          · exact .inl (.inr ⟨n,ob,by rw [look_drops,if_neg hm]; exact m1,m2,m3,m4⟩)
      · rintro ((hso|⟨n,ob,m1,m2,m3,m4⟩)|⟨i,ob,m1,m2,m3,m4⟩)
        · exact .inl hso
        · rw [look_drops] at m1
          split at m1
          · cases m1
          · exact .inr ⟨n,ob,m1,m2,m3,m4⟩
        · obtain ⟨n,o1,i1,i2,i3,rfl⟩ := hlookc i ob m1
          simp only [hgetD i n i1,lim_renO] at m2 m3 m4
          exact .inr ⟨n,o1,i2,m2,m3,m4⟩
    have hSSe : SS c.So φ H1 = SS (fun b off => c.So b off ∨ Own φ (drops H1 ns) b off) (fun i => φ (ns.getD i 0)) (mkH 0 (os.map (renO (tau ns)))) := by funext b off; exact propext (hSS b off)
    have hokc : Ok (fun i => φ (ns.getD i 0)) ns.length (fun b off => c.So b off ∨ Own φ (drops H1 ns) b off) (mkH 0 (os.map (renO (tau ns)))) w := by
      refine ⟨fun i ob hi => ?_,fun i j oi oj hi hj hne n1 n2 => ?_,fun i ob hi hnil off => ?_⟩
      · obtain ⟨n,o1,i1,i2,i3,rfl⟩ := hlookc i ob hi
        refine ⟨(List.getElem?_eq_some_iff.1 i1).1, ?_⟩
        exact (b1.ok.obj n o1 i2).2.ren hmem hSS (by simp only [hgetD i n i1]) (List.all_eq_true.1 h5 o1 (List.mem_of_getElem? i3))
      · obtain ⟨n,o1,i1,i2,i3,rfl⟩ := hlookc i oi hi
        obtain ⟨m,o2,j1,j2,j3,rfl⟩ := hlookc j oj hj
        simp only [hgetD i n i1,hgetD j m j1] at n1 n2 ⊢
        have hil := (List.getElem?_eq_some_iff.1 i1).1
        exact b1.ok.dis n m o1 o2 i2 j2 (fun e => hne ((List.getElem?_inj hil h3.nodup).1 (by rw [i1,j1,e]))) n1 n2
      · obtain ⟨n,o1,i1,i2,i3,rfl⟩ := hlookc i ob hi
        simp only [hgetD i n i1] at hnil ⊢
        rintro (hso|⟨m,o2,m1,m2,m3,m4⟩)
        · exact b1.ok.out n o1 i2 hnil off hso
        · rw [look_drops] at m1
          split at m1
          · cases m1
          · rename_i hm
            exact b1.ok.dis m n o2 o1 m1 i2 (fun e => hm (by rw [e]; exact List.mem_of_getElem? i1)) m2 hnil m3
    refine (h6.2 w (fun i => φ (ns.getD i 0)) (fun b off => c.So b off ∨ Own φ (drops H1 ns) b off) (args.map (act tmps).eval ++ vs) hlowSo hokc (by rw [hsz]; simp) ?_).mono ?_
    · intro i a u ha hu
      simp only [List.getElem?_map,Option.map_eq_some_iff] at ha
      obtain ⟨a0,g1,rfl⟩ := ha
      have hil : i < (allArgs ps caps).length := by rw [← b3]; exact (List.getElem?_eq_some_iff.1 g1).1
      have hrep : Rep φ nx w (SS c.So φ H) (allArgs ps caps)[i] u := by
        by_cases hi : i < ps.length
        · obtain ⟨x,x1,x2⟩ := a2 i ps[i] (by simp [hi])
          have : (allArgs ps caps)[i] = ps[i] := by simp [allArgs,hi]
          rw [this]
          have hx : i < args.size := by have := (List.getElem?_eq_some_iff.1 x1).1; simpa using this
          rw [Array.getElem?_append,if_pos (by simpa using hx)] at hu
          have : args[i]? = some x := by simpa using x1
          simp [this] at hu
          rw [← hu]; exact x2
        · have hil2 : i - ps.length < caps.length := by simp [allArgs] at hil; omega
          have : (allArgs ps caps)[i] = caps[i - ps.length] := by simp [allArgs,List.getElem_append,hi]
          rw [this]
          have hsa : args.size = ps.length := by rw [a1]; simp
          rw [Array.getElem?_append,if_neg (by simp; omega)] at hu
          simp only [Array.size_map,hsa] at hu
          exact e2 (i - ps.length) _ u (by simp [hil2]) hu
      obtain ⟨q,q1,q2⟩ := b4 i _ u (by simp [hil]) hrep
      rw [g1] at q1; cases q1
      rw [← hSSe]
      exact q2.ren hmem (List.all_eq_true.1 h4 _ (List.mem_of_getElem? g1))
    · rintro e w' ⟨r,k',Hr,φ',v,rfl,⟨⟨t1,t2,t3⟩,hk⟩,hok,hr,hext,hle,hφ⟩
      simp only
      obtain ⟨φ2,s1,s2⟩ := b1.called h3 rfl rfl hok hr hext hle hφ t1 t2 t3
      exact hn _ _ _ φ2 v w' hk s1 s2
def stepOp (P : Program) (tab : Tab) (env : Env) (nx : Nat) (H : Heap) (K : PV → Nat → Heap → Prop) : Op → Prop
  | .move x => stepMove env H nx K x
  | .assign x => stepMove env H nx K x
  | .pick x a b => stepPick env H nx K x a b
  | .alloc e => stepAlloc tab H nx K e
  | .box _ x => stepBox env H nx K x
  | .build t parts => stepBuild tab env H nx K t parts.toList
  | .buildSlice t len parts => stepBuildSlice tab env H nx K t len parts.toList
  | .load t x => stepLoad tab env H nx K t x
  | .store t x y => stepStore tab env H nx K t x y
  | .nilCheck x => stepNilCheck env H nx K x
  | .binOp op t x y _ => stepBinOp tab env H nx K op t x y ∨ stepNil tab env H nx K op t x y ∨ stepEqS P tab env H nx K op t x y
  | .unOp op _ x => stepUnOp env H nx K op x
  | .convert s t x => stepConv tab env H nx K s t x ∨ stepText tab env H nx K s t x
  | .makeFunc fn first caps => first.toList = [] ∧ stepMakeFunc env H nx K fn caps.toList
  | .makeSlice t x y => (∀ e ie,tab e = some ie → ie.kd.agg = false → ie.size = 1) ∧ stepMakeSlice tab env H nx K t x y
  | .slice t x lo hi mx => stepSlice tab env H nx K t x lo hi mx
  | .fieldAddr s x q => stepFieldAddr tab env H nx K s x q
  | .field s x q => stepField tab env H nx K s x q
  | .indexAddr t x ix => stepIndexAddr tab env H nx K t x ix
  | .index t x ix => stepIndex tab env H nx K t x ix
  | .extract x i => stepExtract env H nx K x i
  | .makeMap _ x => stepMakeMap H nx K x
  | .lookup t x y ok => stepLookup P env H nx K t x y ok
  | .mapUpdate t x y z => stepMapUpdate P env H nx K t x y z
  | .call { callee := .value f,args,argTypes := _ } => stepCall P env H nx K f args.toList
  | .call { callee := .builtin b,args,argTypes } =>
    match b,args.toList,argTypes.toList with
    | .len,[x],[t] => stepLen tab env H nx K t x
    | .append,[s,x],[t,u] => stepAppend tab env H nx K t u s x
    | .copy,[s,x],[t,u] => stepCopy tab env H nx K t u s x
    | .max,xs,_ => stepMM env H nx K .max xs
    | .min,xs,_ => stepMM env H nx K .min xs
    | _,_,_ => False
  | _ => False
theorem toArr {α : Type}{a : Array α}{l : List α} (h : a.toList = l) : a = l.toArray := by rw [← h]
theorem does_op (ht : TabOk P tab) (h : stepOp P tab env nx H K o.op) : Does P o c nx env H K := by
  unfold stepOp at h
  split at h
  case h_1 ho => exact does_move (.inl ho) h
  case h_2 ho => exact does_move (.inr ho) h
  case h_3 ho => exact does_pick ho h
  case h_4 ho => exact does_alloc ht ho h
  case h_5 ho => exact does_box ho h
  case h_6 ho => exact does_build ht ho h
  case h_7 ho => exact does_buildSlice ht ho h
  case h_8 ho => exact does_load ht ho h
  case h_9 ho => exact does_store ht ho h
  case h_10 ho => exact does_nilCheck ho h
  case h_11 ho => rcases h with h|h|h; exact does_binOp ht ho h; exact does_nil ht ho h; exact does_eqS ht ho h
  case h_12 ho => exact does_unOp ho h
  case h_13 ho => rcases h with h|h; exact does_convert ht ho h; exact does_text ht ho h
  case h_14 ho => obtain ⟨h0,h⟩ := h; rw [toArr h0] at ho; exact does_makeFunc ho h
  case h_15 ho => exact does_makeSlice ht ho h.1 h.2
  case h_16 ho => exact does_slice ht ho h
  case h_17 ho => exact does_fieldAddr ht ho h
  case h_18 ho => exact does_field ht ho h
  case h_19 ho => exact does_indexAddr ht ho h
  case h_20 ho => exact does_index ht ho h
  case h_21 ho => exact does_extract ho h
  case h_22 ho => exact does_makeMap ho h
  case h_23 ho => exact does_lookup ho h
  case h_24 ho => exact does_mapUpdate ho h
  case h_25 ho => exact does_call ho h
  case h_26 ho =>
    split at h
    · rename_i e1 e2; rw [toArr e1,toArr e2] at ho; exact does_len ht ho h
    · rename_i e1 e2; rw [toArr e1,toArr e2] at ho; exact does_append ht ho h
    · rename_i e1 e2; rw [toArr e1,toArr e2] at ho; exact does_copy ht ho h
    · exact does_mm (xs := _) (by simpa using ho) h
    · exact does_mm (xs := _) (by simpa using ho) h
    · exact h.elim
  case h_27 => exact h.elim
def putE (d : Option Nat) (pv : PV) (env : Env) : Env := match d with|some d => (d,pv) :: env|none => env
abbrev undefP : PV := .f (.v undef)
def vb : Value → Option Bool
  | .bool b => some b
  | _ => none
theorem yielded_vb {ops : Array Oper}{tmps : Array Value}{j d : Nat}{v : Value} (h : (ops[j]?).bind (·.dst) = some d) (hv : tmps[d]? = some v) : yielded ops tmps j = vb v := by
  unfold yielded
  rw [h]
  simp only [Option.bind_some,hv]
  cases v <;> rfl
def dstOk (nt : Nat) (d : Option Nat) : Bool := match d with|some d => decide (d < nt)|none => true
theorem StΦ.putE {φ : Nat → Phys}{tmps : Array Value}{w : World} (h : StΦ c nx env H φ tmps w) {pv : PV}{v : Value}{d : Option Nat} (hr : Rep φ nx w (SS c.So φ H) pv v) (hd : dstOk c.nt d = true) :
    StΦ c nx (Pv.putE d pv env) H φ ((act tmps).put d v).tmps w := by
  cases d with
  | none => exact h
  | some d => exact h.put hr (by simpa [dstOk] using hd)
end
inductive Ex where
  | normal
  | exit (id : Nat)
  | ret
  deriving DecidableEq
def Ex.to : Ex → Exit
  | .normal => .normal
  | .exit i => .exit i
  | .ret => .ret
abbrev Post := Ex → Env → Nat → Heap → Prop
def PostOf (c : Ctx) (Q : Post) : Exit → Act → World → Prop :=
  fun e a w => ∃ x env nx H φ,e = x.to ∧ a.defers = [] ∧ StΦ c nx env H φ a.tmps w ∧ Q x env nx H
def W (P : Program) (c : Ctx) (code : Code) (env : Env) (nx : Nat) (H : Heap) (Q : Post) : Prop :=
  ∀ φ tmps w,StΦ c nx env H φ tmps w → code.wp P (PostOf c Q) (act tmps) w
section
variable {P : Program}{tab : Tab}{c : Ctx}{nx : Nat}{env : Env}{H H' : Heap}
theorem W.mono {code : Code}{Q Q' : Post} (hq : ∀ x env nx H,Q x env nx H → Q' x env nx H) (h : W P c code env nx H Q) : W P c code env nx H Q' :=
  fun φ tmps w hs => Code.wp_mono (fun e a w ⟨x,env,nx,H,φ,h1,h2,h3,h4⟩ => ⟨x,env,nx,H,φ,h1,h2,h3,hq _ _ _ _ h4⟩) (h φ tmps w hs)
def inv (ps : List (Nat × Nat)) : List (Nat × Nat) := ps.map fun p => (p.2,p.1)
def tauP (ps : List (Nat × Nat)) (n : Nat) : Nat := (look (inv ps) n).getD 0
def hasP (ps : List (Nat × Nat)) (n : Nat) : Bool := (look (inv ps) n).isSome
def SubEnv (ps : List (Nat × Nat)) : Env → Env → Prop
  | [],_ => True
  | (k,pv) :: t,env2 => (∃ p2,look env2 k = some p2 ∧ has (hasP ps) p2 = true ∧ ren (tauP ps) p2 = pv) ∧ SubEnv ps t env2
def SubHeap (ps : List (Nat × Nat)) : Heap → Heap → Prop
  | [],_ => True
  | (n,o) :: t,H2 => (∃ m o2,look ps n = some m ∧ look H2 m = some o2 ∧ hasO (hasP ps) o2 = true ∧ renO (tauP ps) o2 = o) ∧ SubHeap ps t H2
theorem SubEnv.get {ps : List (Nat × Nat)} : ∀ {env1 env2 : Env},SubEnv ps env1 env2 → ∀ k pv,look env1 k = some pv → ∃ p2,look env2 k = some p2 ∧ has (hasP ps) p2 = true ∧ ren (tauP ps) p2 = pv
  | [],_,_,k,pv,h => by simp [look] at h
  | (q,x) :: t,env2,hs,k,pv,h => by
    simp only [look] at h
    split at h
    · rename_i e; subst e; cases h; exact hs.1
    · exact SubEnv.get hs.2 k pv h
theorem SubHeap.get {ps : List (Nat × Nat)} : ∀ {H1 H2 : Heap},SubHeap ps H1 H2 → ∀ n o,look H1 n = some o → ∃ m o2,look ps n = some m ∧ look H2 m = some o2 ∧ hasO (hasP ps) o2 = true ∧ renO (tauP ps) o2 = o
  | [],_,_,n,o,h => by simp [look] at h
  | (q,x) :: t,H2,hs,n,o,h => by
    simp only [look] at h
    split at h
    · rename_i e; subst e; cases h; exact hs.1
    · exact SubHeap.get hs.2 n o h
end
section
variable {P : Program}{tab : Tab}{c : Ctx}{nx : Nat}{env : Env}{H H' : Heap}
theorem load_own (ht : TabOk P tab) {φ : Nat → Phys}{tmps : Array Value}{w : World} (hs : StΦ c nx env H φ tmps w) {t : Nat}{i : TI}{n off : Nat}{cs : List PV} (h1 : tab t = some i) (hsz : i.kd.agg = false → i.size = 1)
    (k2 : look H n = some (.obj cs)) (k3 : off + i.size ≤ cs.length) :
    ∃ u,(loadVar t ⟨(φ n).blk,off,none⟩).run P w = .ok u w ∧ Rep φ nx w (SS c.So φ H) (if i.kd.agg then mkAgg ((cs.drop off).take i.size) else (cs.drop off).headD (.f (.v undef))) u := by
  have hnx := (hs.ok.obj n _ k2).1
  let o : Oper := { dst := none,op := .load t (.const (.pointer (some ⟨(φ n).blk,off,none⟩))),type := 0,pos := "",after := #[],guard := none }
  obtain ⟨hnil,arr,ty,a1,a2,a3⟩ := (hs.ok.obj n _ k2).2
  have hrun := run_loadVar ht h1 w (φ n).blk off ((arr.toList.drop off).take i.size) (by simp; omega) (fun j v hj => by
    rw [cell_heap a1]
    simp only [List.getElem?_take,List.getElem?_drop,Array.getElem?_toList] at hj
    split at hj
    · exact hj
    · cases hj) hsz
  refine ⟨_,hrun, ?_⟩
  have hget : ∀ j,off + j < cs.length → ∃ d u,cs[off + j]? = some d ∧ arr[off + j]? = some u ∧ Pv.one u = true ∧ Rep φ nx w (SS c.So φ H) d u := by
    intro j hj
    obtain ⟨u,b1,b2,b3⟩ := a3 (off + j) cs[off + j] (by simp [hj])
    exact ⟨_,u,by simp [hj],b1,b2,b3⟩
  cases hagg : i.kd.agg with
  | true =>
    simp only [if_true]
    refine Rep.mkAgg (by simp; omega) (fun j u hu => ?_) (fun j d u hd hu => ?_)
    · simp only [List.getElem?_toArray,List.getElem?_take,List.getElem?_drop,Array.getElem?_toList] at hu
      split at hu
      · have hj : off + j < cs.length := by omega
        obtain ⟨d',u',b1,b2,b3,b4⟩ := hget j hj
        rw [b2] at hu; cases hu; exact b3
      · cases hu
    · simp only [List.getElem?_toArray,List.getElem?_take,List.getElem?_drop,Array.getElem?_toList] at hu hd
      split at hu
      · rename_i hlt
        rw [if_pos hlt] at hd
        have hj : off + j < cs.length := by omega
        obtain ⟨d',u',b1,b2,b3,b4⟩ := hget j hj
        rw [b1] at hd; rw [b2] at hu; cases hd; cases hu; exact b4
      · cases hu
  | false =>
    have := hsz hagg
    obtain ⟨d',u',b1,b2,b3,b4⟩ := hget 0 (by omega)
    simp only [Nat.add_zero] at b1 b2
    simp only [Bool.false_eq_true,if_false,this]
    rw [list_drop_head b1]
    have : ((arr.toList.drop off).take 1).headD undef = u' := by
      rw [List.headD_eq_head?_getD,List.head?_take,List.head?_drop]
      simp [b2]
    rw [this]; exact b4
def resVal (tmps : Array Value) : ResultVar → Sem Value
  | .tmp t => pure (tmps.getD t undef)
  | .cell a t => do loadVar t (← asAddr (tmps.getD a undef))
end
section
variable {P : Program}{tab : Tab}{c : Ctx}{env : Env}{H : Heap}
def Ctx.part (c : Ctx) (w : World) (φ : Nat → Phys) (HS HR : Heap) (M : Nat) (hlow : ∀ b off,(c.So b off ∨ Own φ HR b off) → b < w.heap.size) : Ctx :=
  { w0 := w,So := fun b off => c.So b off ∨ Own φ HR b off,O0 := Own φ HS,k := M,φ0 := φ,nt := c.nt,low := hlow }
structure Part (H HS HR : Heap) : Prop where
  l : ∀ n o,look HS n = some o → look H n = some o
  r : ∀ n o,look HR n = some o → look H n = some o
  lr : ∀ n o o',look HS n = some o → look HR n = some o' → False
  all : ∀ n o,look H n = some o → look HS n = some o ∨ look HR n = some o
theorem Rep.lessNames {φ φ2 : Nat → Phys}{nx nx2 : Nat}{w : World}{S : Nat → Nat → Prop}{p : Nat → Bool} (hp : ∀ n,n < nx → p n = true → φ2 n = φ n ∧ n < nx2) {x : PV}{v : Value}
    (h : Rep φ nx w S x v) (hx : has p x = true) : Rep φ2 nx2 w S x v := by
  have e : Pv.ren (fun n => n) x = x := by
    have r1 : ∀ y,Pv.ren1 (fun n => n) y = y := by intro y; cases y <;> rfl
    have r1f : Pv.ren1 (fun n => n) = id := by funext y; exact r1 y
    have r2 : ∀ y,Pv.ren2 (fun n => n) y = y := by
      intro y; cases y <;> simp [Pv.ren2,r1f,r1]
    have r2f : Pv.ren2 (fun n => n) = id := by funext y; exact r2 y
    cases x <;> simp [Pv.ren,r2f,r2]
  have := h.ren (τ := fun n => n) (k := nx2) (φ2 := φ2) hp hx
  rwa [e] at this
theorem SatO.lessNames {φ φ2 : Nat → Phys}{nx nx2 : Nat}{w : World}{S : Nat → Nat → Prop}{p : Nat → Bool} (hp : ∀ n,n < nx → p n = true → φ2 n = φ n ∧ n < nx2) {n : Nat}{o : Obj}
    (he : φ2 n = φ n) (h : SatO φ nx w S n o) (ho : hasO p o = true) : SatO φ2 nx2 w S n o := by
  have r1f : ren1 (fun n => n) = id := by funext y; cases y <;> rfl
  have r2f : ren2 (fun n => n) = id := by funext y; cases y <;> simp [ren2,r1f] <;> rfl
  have e : renO (fun n => n) o = o := by cases o <;> simp [renO,r2f]
  have := h.ren (τ := fun n => n) (k := nx2) (φ2 := φ2) (m := n) hp (fun _ _ => Iff.rfl) he ho
  rwa [e] at this
theorem StΦ.part {N M : Nat}{φ : Nat → Phys}{tmps : Array Value}{w : World} (hs : StΦ c N env H φ tmps w) {eS : Env}{HS HR : Heap} (hp : Part H HS HR) (hM : M ≤ N)
    (he : ∀ k x,look eS k = some x → look env k = some x ∧ has (fun n => decide (n < M)) x = true) (hH : ∀ n o,look HS n = some o → n < M ∧ hasO (fun n => decide (n < M)) o = true) :
    ∃ hlow,StΦ (c.part w φ HS HR M hlow) M eS HS φ tmps w ∧ ∀ b off,SS c.So φ H b off ↔ SS (c.part w φ HS HR M hlow).So φ HS b off := by
  have hlow : ∀ b off,(c.So b off ∨ Own φ HR b off) → b < w.heap.size := by
    rintro b off (h|⟨n,o,m1,m2,m3,m4⟩)
    · exact Nat.lt_of_lt_of_le (c.low _ _ h) hs.ext.size
    · rw [← m3]; exact (hs.ok.obj n o (hp.r n o m1)).2.lt m2
  refine ⟨hlow, ?_⟩
  have hSS : ∀ b off,SS c.So φ H b off ↔ SS (c.part w φ HS HR M hlow).So φ HS b off := by
    intro b off
    constructor
    · rintro (h|⟨n,o,m1,m2⟩)
      · exact .inl (.inl h)
      · rcases hp.all n o m1 with h|h
        · exact .inr ⟨n,o,h,m2⟩
        · exact .inl (.inr ⟨n,o,h,m2⟩)
    · rintro ((h|⟨n,o,m1,m2⟩)|⟨n,o,m1,m2⟩)
      · exact .inl h
      · exact .inr ⟨n,o,hp.r n o m1,m2⟩
      · exact .inr ⟨n,o,hp.l n o m1,m2⟩
  have hSe : SS c.So φ H = SS (c.part w φ HS HR M hlow).So φ HS := by funext b off; exact propext (hSS b off)
  refine ⟨⟨⟨fun n o hn => ?_,fun n m o1 o2 h1 h2 => hs.ok.dis n m o1 o2 (hp.l _ _ h1) (hp.l _ _ h2),fun n o hn hnil off => ?_⟩,fun k x hk => ?_,Ext.refl _ _,⟨Nat.le_refl _,fun _ _ => rfl⟩,hs.size⟩,hSS⟩
  · obtain ⟨a,b⟩ := hs.ok.obj n o (hp.l n o hn)
    obtain ⟨d,e⟩ := hH n o hn
    rw [← hSe]
    exact ⟨d,b.lessNames (fun n _ hn => ⟨rfl,by simpa using hn⟩) rfl e⟩
  · rintro (h|⟨m,o2,m1,m2,m3,m4⟩)
    · exact hs.ok.out n o (hp.l n o hn) hnil off h
    · refine hs.ok.dis m n o2 o (hp.r m o2 m1) (hp.l n o hn) (fun e => ?_) m2 hnil m3
      subst e; exact hp.lr m o o2 hn m1
  · obtain ⟨a,b⟩ := he k x hk
    obtain ⟨v,v1,v2⟩ := hs.env k x a
    rw [← hSe]
    exact ⟨v,v1,v2.lessNames (fun n _ hn => ⟨rfl,by simpa using hn⟩) b⟩
theorem StΦ.whole {N M M' : Nat}{φ φ' : Nat → Phys}{tmps : Array Value}{w w' : World} (hs : StΦ c N env H φ tmps w) {eS : Env}{HS HR HS' : Heap} (hp : Part H HS HR) (hM : M ≤ M') (hM' : M' ≤ N) {hlow}
    (h : StΦ (c.part w φ HS HR M hlow) M' eS HS' φ' tmps w') {env' : Env} (he : ∀ k x,look env' k = some x → look env k = some x ∧ has (fun n => decide (n < M) || decide (M' ≤ n)) x = true)
    (hR : ∀ n o,look HR n = some o → (n < M ∨ M' ≤ n) ∧ hasO (fun n => decide (n < M) || decide (M' ≤ n)) o = true) (hname : ∀ n o o',look HS' n = some o → look HR n = some o' → False)
    (hk : c.k ≤ M) {pv : PV}{v : Value} (hr : Rep φ' M' w' (SS (c.part w φ HS HR M hlow).So φ' HS') pv v) (hpv : has (fun _ => true) pv = true) (hHS' : ∀ n o,look HS' n = some o → hasO (fun _ => true) o = true) :
    ∃ φ2,StΦ c N env' (HS' ++ HR) φ2 tmps w' ∧ Rep φ2 N w' (SS c.So φ2 (HS' ++ HR)) pv v := by
  let φ2 : Nat → Phys := fun n => if n < M' then φ' n else φ n
  have hkeep : ∀ n,n < M → φ' n = φ n := h.keep.2
  have hφ2a : ∀ n,n < M' → φ2 n = φ' n := fun n hn => by simp only [φ2]; rw [if_pos hn]
  have hφ2b : ∀ n,(n < M ∨ M' ≤ n) → φ2 n = φ n := by
    intro n hn
    simp only [φ2]
    split
    · rcases hn with h|h
      · exact hkeep n h
      · omega
    · rfl
  have hext : Ext w w' (Own φ HS) (Own φ' HS') := h.ext
  have hOwn : ∀ b off,Own φ2 (HS' ++ HR) b off ↔ (Own φ' HS' b off ∨ Own φ HR b off) := by
    intro b off
    constructor
    · rintro ⟨n,o,m1,m2,m3,m4⟩
      rw [look_append] at m1
      cases hq : look HS' n with
      | some o1 =>
        rw [hq] at m1; simp at m1; subst m1
        have := (h.ok.obj n o1 hq).1
        rw [hφ2a n this] at m2 m3 m4
        exact .inl ⟨n,o1,hq,m2,m3,m4⟩
      | none =>
        rw [hq] at m1; simp at m1
        rw [hφ2b n (hR n o m1).1] at m2 m3 m4
        exact .inr ⟨n,o,m1,m2,m3,m4⟩
    · rintro (⟨n,o,m1,m2,m3,m4⟩|⟨n,o,m1,m2,m3,m4⟩)
      · have := (h.ok.obj n o m1).1
        exact ⟨n,o,by rw [look_append,m1]; rfl,by rw [hφ2a n this]; exact m2,by rw [hφ2a n this]; exact m3,by rw [hφ2a n this]; exact m4⟩
      · have hnone : look HS' n = none := by
          cases hq : look HS' n with
          | none => rfl
          | some o1 => exact (hname n o1 o hq m1).elim
        have hf := hφ2b n (hR n o m1).1
        exact ⟨n,o,by rw [look_append,hnone]; simpa using m1,by rw [hf]; exact m2,by rw [hf]; exact m3,by rw [hf]; exact m4⟩
  have hSS : ∀ b off,SS (c.part w φ HS HR M hlow).So φ' HS' b off ↔ SS c.So φ2 (HS' ++ HR) b off := by
    intro b off
    constructor
    · rintro ((h|h)|h)
      · exact .inl h
      · exact .inr ((hOwn b off).2 (.inr h))
      · exact .inr ((hOwn b off).2 (.inl h))
    · rintro (h|h)
      · exact .inl (.inl h)
      · rcases (hOwn b off).1 h with h|h
        · exact .inr h
        · exact .inl (.inr h)
  have hSe : SS (c.part w φ HS HR M hlow).So φ' HS' = SS c.So φ2 (HS' ++ HR) := by funext b off; exact propext (hSS b off)
  have hOS : ∀ b off,Own φ HS b off → Own φ H b off := by rintro b off ⟨n,o,m1,m2⟩; exact ⟨n,o,hp.l n o m1,m2⟩
  have hE : Ext w w' (Own φ H) (Own φ2 (HS' ++ HR)) := by
    refine ⟨hext.os,hext.tape,hext.output,hext.size,fun b hb hO => hext.blk b hb fun off ho => hO off (hOS b off ho),fun b off hb hO => hext.cell b off hb fun ho => hO (hOS b off ho), ?_⟩
    intro b off hb hO
    rcases (hOwn b off).1 hO with h|⟨n,o,m1,m2⟩
    · exact hOS b off (hext.own b off hb h)
    · exact ⟨n,o,hp.r n o m1,m2⟩
  have hmono : Mono w (SS c.So φ H) w' (SS c.So φ2 (HS' ++ HR)) := hE.mono
  have hless : ∀ n,n < N → (decide (n < M) || decide (M' ≤ n)) = true → φ2 n = φ n ∧ n < N := fun n hn hd => ⟨hφ2b n (by simpa using hd),hn⟩
  have hnew : ∀ n,n < M' → (fun _ : Nat => true) n = true → φ2 n = φ' n ∧ n < N := fun n hn _ => ⟨hφ2a n hn,by omega⟩
  refine ⟨φ2,⟨⟨fun n o hn => ?_,fun n m o1 o2 h1 h2 hne n1 n2 => ?_,fun n o hn hnil off hso => ?_⟩,fun k x hk' => ?_, ?_,⟨Nat.le_trans hk (by omega),fun n hn => ?_⟩,hs.size⟩, ?_⟩
  · rw [look_append] at hn
    cases hq : look HS' n with
    | some o1 =>
      rw [hq] at hn; simp at hn; subst hn
      obtain ⟨a,b⟩ := h.ok.obj n o1 hq
      rw [hSe] at b
      exact ⟨by omega,b.lessNames hnew (hφ2a n a) (hHS' n o1 hq)⟩
    | none =>
      rw [hq] at hn; simp at hn
      obtain ⟨a,b⟩ := hs.ok.obj n o (hp.r n o hn)
      obtain ⟨d,e⟩ := hR n o hn
      refine ⟨a, ?_⟩
      have b2 := b.step (φ' := φ) (nx' := N) (w' := w') (S' := SS c.So φ2 (HS' ++ HR)) (fun _ _ => rfl) (Nat.le_refl _) hmono a fun hf => by
        refine hext.blk _ (b.lt hf) fun off ho => ?_
        obtain ⟨m,o2,m1,m2,m3,m4⟩ := ho
        refine hs.ok.dis m n o2 o (hp.l m o2 m1) (hp.r n o hn) (fun e => ?_) m2 hf m3
        subst e; exact hp.lr m o2 o m1 hn
      exact b2.lessNames hless (hφ2b n d) e
  · rw [look_append] at h1 h2
    cases hq1 : look HS' n with
    | some oo1 =>
      have a1 := (h.ok.obj n oo1 hq1).1
      cases hq2 : look HS' m with
      | some oo2 =>
        have a2 := (h.ok.obj m oo2 hq2).1
        rw [hφ2a n a1] at n1 ⊢; rw [hφ2a m a2] at n2 ⊢
        exact h.ok.dis n m oo1 oo2 hq1 hq2 hne n1 n2
      | none =>
        rw [hq2] at h2; simp at h2
        rw [hφ2a n a1] at n1 ⊢
        have hf := hφ2b m (hR m o2 h2).1
        rw [hf] at n2 ⊢
        intro e
        exact h.ok.out n oo1 hq1 n1 (lim (φ m) o2) (.inr ⟨m,o2,h2,n2,e.symm,Nat.le_refl _⟩)
    | none =>
      rw [hq1] at h1; simp at h1
      have hf1 := hφ2b n (hR n o1 h1).1
      rw [hf1] at n1 ⊢
      cases hq2 : look HS' m with
      | some oo2 =>
        have a2 := (h.ok.obj m oo2 hq2).1
        rw [hφ2a m a2] at n2 ⊢
        intro e
        exact h.ok.out m oo2 hq2 n2 (lim (φ n) o1) (.inr ⟨n,o1,h1,n1,e,Nat.le_refl _⟩)
      | none =>
        rw [hq2] at h2; simp at h2
        have hf2 := hφ2b m (hR m o2 h2).1
        rw [hf2] at n2 ⊢
        exact hs.ok.dis n m o1 o2 (hp.r _ _ h1) (hp.r _ _ h2) hne n1 n2
  · rw [look_append] at hn
    cases hq : look HS' n with
    | some o1 =>
      have a := (h.ok.obj n o1 hq).1
      rw [hφ2a n a] at hnil hso
      exact h.ok.out n o1 hq hnil off (.inl hso)
    | none =>
      rw [hq] at hn; simp at hn
      have hf := hφ2b n (hR n o hn).1
      rw [hf] at hnil hso
      exact hs.ok.out n o (hp.r n o hn) hnil off hso
  · obtain ⟨a,b⟩ := he k x hk'
    obtain ⟨u,u1,u2⟩ := hs.env k x a
    exact ⟨u,u1,(u2.step (φ' := φ) (nx' := N) (fun _ _ => rfl) (Nat.le_refl _) hmono).lessNames hless b⟩
  · have e := hs.ext.trans hE
    exact e
  · rw [hφ2b n (.inl (by omega))]; exact hs.keep.2 n hn
  · rw [hSe] at hr
    exact hr.lessNames hnew hpv
end
end Go.Proofs.YtmingcnmgdgokaaGreat.Pv
