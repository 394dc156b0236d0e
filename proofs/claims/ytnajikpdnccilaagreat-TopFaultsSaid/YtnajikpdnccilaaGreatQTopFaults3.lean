/- What the law TopFaults needs, and no more: merged out of texts of this session by a program of it (wip/tools/prune.py). -/
import Derived.Test.YtnajikpdnccilaaGreatQTopFaults2
set_option linter.unusedVariables false
set_option linter.unusedSimpArgs false
namespace Go.Proofs.YtnajikpdnccilaaGreat.Pv.M
open Go
section
variable {ρ : Nat → Int}{P : Program}{D : Dm}{s : Option Sg}{f : Nat → Nat}{φ1 φ2 : Nat → Ph}{m nx2 : Nat}
theorem sumS_ok {φ : Nat → Ph}{nx nx' : Nat}{φ' : Nat → Ph}{k : IntKind}{c : Int}{l : List Int} (v : Value) : Rel ρ φ nx (sumS s k c l) v ↔ Rel (sgS ρ s) φ' nx' (.a k c l) v := by
  rw [int_rel]
  cases s with
  | none => show Rel ρ φ nx (.a k c l) v ↔ _; rw [int_rel]; rfl
  | some σ =>
    have h := subN_ok (ρ := ρ) (φ := φ) (nx := nx) (σ := σ) (k := k) (c := c) (l := l) v
    rw [int_rel] at h
    exact h
theorem row2 {R R' : MV → Value → Prop}{g : MV → MV}{cs : List MV} (h : ∀ (i : Nat) c,cs[i]? = some c → ∀ v,R (g c) v ↔ R' c v) {vs : Array Value} :
    (vs.size = (cs.map g).length ∧ ∀ (i : Nat) c u,(cs.map g)[i]? = some c → vs[i]? = some u → R c u) ↔ (vs.size = cs.length ∧ ∀ (i : Nat) c u,cs[i]? = some c → vs[i]? = some u → R' c u) := by
  rw [List.length_map]
  refine and_congr_right fun _ => ⟨fun h1 i c u hc hu => (h i c hc u).1 (h1 i (g c) u (by rw [List.getElem?_map,hc]; rfl) hu),fun h1 i c u hc hu => ?_⟩
  rw [List.getElem?_map] at hc
  cases hq : cs[i]? with
  | none => rw [hq] at hc; cases hc
  | some d => rw [hq] at hc; cases hc; exact (h i d hq u).2 (h1 i d u hq hu)
theorem subS_iff (hp : ∀ n,n < m → φ2 (f n) = φ1 n ∧ f n < nx2) (x : MV) : hasV (ltB m) x = true → ∀ v,(Rel ρ φ2 nx2 (subS s f x) v ↔ Rel (sgS ρ s) φ1 m x v) := by
  have mem : ∀ {l : List MV},allB (hasV (ltB m)) l = true → (∀ (i : Nat) c,l[i]? = some c → hasV (ltB m) c = true → ∀ v,(Rel ρ φ2 nx2 (subS s f c) v ↔ Rel (sgS ρ s) φ1 m c v)) → ∀ (i : Nat) c,l[i]? = some c → ∀ v,(Rel ρ φ2 nx2 (subS s f c) v ↔ Rel (sgS ρ s) φ1 m c v) :=
    fun ha h i c hc => h i c hc (allB_inv ha c (List.mem_of_getElem? hc))
  refine @MV.rec (fun x => hasV (ltB m) x = true → ∀ v,(Rel ρ φ2 nx2 (subS s f x) v ↔ Rel (sgS ρ s) φ1 m x v)) (fun l => ∀ (i : Nat) c,l[i]? = some c → hasV (ltB m) c = true → ∀ v,(Rel ρ φ2 nx2 (subS s f c) v ↔ Rel (sgS ρ s) φ1 m c v)) ?_ ?_ ?_ ?_ ?_ ?_ ?_ ?_ ?_ ?_ ?_ ?_ ?_ x
  · intro x _ v; exact ⟨fun h => by cases h; exact .v x,fun h => by cases h; exact .v x⟩
  · intro x _ v; exact ⟨fun h => by cases h; exact .b x,fun h => by cases h; exact .b x⟩
  · intro k c _ v; exact ⟨fun h => by cases h; exact .n k c,fun h => by cases h; exact .n k c⟩
  · intro k c l _ v; exact sumS_ok v
  · intro n o hx v
    obtain ⟨e,l⟩ := hp n (of_decide_eq_true hx)
    show Rel ρ φ2 nx2 (.ptr (f n) o) v ↔ _
    constructor
    · intro h; cases h; rw [e]; exact .ptr (of_decide_eq_true hx)
    · intro h; cases h; rw [← e]; exact .ptr l
  · intro sz n o l c hx v
    obtain ⟨e,hl⟩ := hp n (of_decide_eq_true hx)
    show Rel ρ φ2 nx2 (.sl sz (f n) o l c) v ↔ _
    constructor
    · intro h; cases h with|sl h1 h2 h3 h4 h5 => rw [e] at h4 h5; exact .sl (of_decide_eq_true hx) h2 h3 h4 h5
    · intro h; cases h with|sl h1 h2 h3 h4 h5 => rw [← e] at h4 h5; exact .sl hl h2 h3 h4 h5
  · intro cs ih hx v
    rw [hasV_agg] at hx
    have h := mem hx ih
    rw [subS_agg]
    constructor
    · intro hr; cases hr with
      | agg _ vs h1 h2 h3 => obtain ⟨a,b⟩ := (row2 h).1 ⟨h1,h3⟩; exact .agg cs vs a h2 b
    · intro hr; cases hr with
      | agg _ vs h1 h2 h3 => obtain ⟨a,b⟩ := (row2 h).2 ⟨h1,h3⟩; exact .agg _ vs a h2 b
  · intro cs ih hx v
    rw [hasV_tup] at hx
    have h := mem hx ih
    rw [subS_tup]
    constructor
    · intro hr; cases hr with
      | tup _ vs h1 h3 => obtain ⟨a,b⟩ := (row2 h).1 ⟨h1,h3⟩; exact .tup cs vs a b
    · intro hr; cases hr with
      | tup _ vs h1 h3 => obtain ⟨a,b⟩ := (row2 h).2 ⟨h1,h3⟩; exact .tup _ vs a b
  · intro g cs ds i1 i2 hx v
    rw [hasV_clo] at hx
    obtain ⟨hx1,hx2⟩ := oc_inv hx
    have h := mem hx1 i1
    have h2 := mem hx2 i2
    rw [subS_clo]
    constructor
    · intro hr; cases hr with
      | clo _ _ _ xs ys a1 a2 a3 a4 => obtain ⟨a,b⟩ := (row2 h).1 ⟨a1,a2⟩; obtain ⟨a',b'⟩ := (row2 h2).1 ⟨a3,a4⟩; exact .clo g cs ds xs ys a b a' b'
    · intro hr; cases hr with
      | clo _ _ _ xs ys a1 a2 a3 a4 => obtain ⟨a,b⟩ := (row2 h).2 ⟨a1,a2⟩; obtain ⟨a',b'⟩ := (row2 h2).2 ⟨a3,a4⟩; exact .clo g _ _ xs ys a b a' b'
  · intro n hx v
    obtain ⟨e,l⟩ := hp n (of_decide_eq_true hx)
    show Rel ρ φ2 nx2 (.mp (f n)) v ↔ _
    constructor
    · intro h; cases h; rw [e]; exact .mp (of_decide_eq_true hx)
    · intro h; cases h; rw [← e]; exact .mp l
  · intro t x ih hx v
    show Rel ρ φ2 nx2 (.ifc t (subS s f x)) v ↔ _
    constructor
    · intro hr; cases hr with
      | ifc _ _ u h1 => exact .ifc t x u ((ih hx u).1 h1)
    · intro hr; cases hr with
      | ifc _ _ u h1 => exact .ifc t _ u ((ih hx u).2 h1)
  · intro i c hc; simp at hc
  · intro x t i1 i2 i c hc
    cases i with
    | zero => simp at hc; subst hc; exact i1
    | succ i => exact i2 i c (by simpa using hc)
theorem subSO_iff (hp : ∀ n,n < m → φ2 (f n) = φ1 n ∧ f n < nx2) {n : Nat} (hn : φ2 (f n) = φ1 n) {o : MO} (ho : hasO (ltB m) o = true) {w : World} : ObjOk ρ φ2 nx2 w (f n) (subSO s f o) ↔ ObjOk (sgS ρ s) φ1 m w n o := by
  cases o with
  | cells l =>
    have ho : allB (hasV (ltB m)) l = true := ho
    have h : ∀ (i : Nat) c,l[i]? = some c → ∀ v,(Rel ρ φ2 nx2 (subS s f c) v ↔ Rel (sgS ρ s) φ1 m c v) := fun i c hc => subS_iff hp c (allB_inv ho c (List.mem_of_getElem? hc))
    constructor
    · rintro ⟨arr,ty,h1,h2,h3⟩
      rw [hn] at h1 h2 h3
      refine ⟨arr,ty,h1,h2,fun i c hc => ?_⟩
      obtain ⟨u,a,b,e⟩ := h3 i (subS s f c) (by rw [List.getElem?_map,hc]; rfl)
      exact ⟨u,a,b,(h i c hc u).1 e⟩
    · rintro ⟨arr,ty,h1,h2,h3⟩
      rw [← hn] at h1 h2 h3
      refine ⟨arr,ty,h1,h2,fun i c hc => ?_⟩
      rw [List.getElem?_map] at hc
      cases hq : l[i]? with
      | none => rw [hq] at hc; cases hc
      | some d =>
        rw [hq] at hc; cases hc
        obtain ⟨u,a,b,e⟩ := h3 i d hq
        exact ⟨u,a,b,(h i d hq u).2 e⟩
  | map es =>
    have ho : allB (fun e => oc (hasV (ltB m) e.1) (hasV (ltB m) e.2)) es = true := ho
    have h : ∀ (i : Nat) c,es[i]? = some c → (∀ v,(Rel ρ φ2 nx2 (subS s f c.1) v ↔ Rel (sgS ρ s) φ1 m c.1 v)) ∧ (∀ v,(Rel ρ φ2 nx2 (subS s f c.2) v ↔ Rel (sgS ρ s) φ1 m c.2 v)) := fun i c hc => by
      obtain ⟨a,b⟩ := oc_inv (allB_inv ho c (List.mem_of_getElem? hc))
      exact ⟨subS_iff hp _ a,subS_iff hp _ b⟩
    constructor
    · rintro ⟨ents,clock,h1,h2,h3⟩
      rw [hn] at h1
      refine ⟨ents,clock,h1,by rw [h2]; simp,fun i c hc => ?_⟩
      obtain ⟨e,a,b,d⟩ := h3 i (subS s f c.1,subS s f c.2) (by rw [List.getElem?_map,hc]; rfl)
      exact ⟨e,a,((h i c hc).1 _).1 b,((h i c hc).2 _).1 d⟩
    · rintro ⟨ents,clock,h1,h2,h3⟩
      rw [← hn] at h1
      refine ⟨ents,clock,h1,by rw [h2]; simp,fun i c hc => ?_⟩
      rw [List.getElem?_map] at hc
      cases hq : es[i]? with
      | none => rw [hq] at hc; cases hc
      | some q =>
        rw [hq] at hc; cases hc
        obtain ⟨e,a,b,d⟩ := h3 i q hq
        exact ⟨e,a,((h i q hq).1 _).2 b,((h i q hq).2 _).2 d⟩
  | dead => exact ⟨fun _ => trivial,fun _ => trivial⟩
theorem subSO_dead {o : MO} : subSO s f o ≠ .dead ↔ o ≠ .dead := by cases o <;> simp [subSO]
theorem TB.ren {g : Nat}{args' args : List MV}{need K H Hf : Heap}{r : MV}{m2 nx : Nat} (h : TB (sgS ρ s) P g args m need r m2 K) (hmm : m ≤ m2)
    (hf1 : ∀ n,n < m → f n < nx) (hf2 : ∀ n,m ≤ n → f n = nx + (n - m)) (hinj : ∀ n q,n < m → q < m → f n = f q → n = q)
    (hl : args'.length = args.length) (ha : ∀ (i : Nat) a a',args[i]? = some a → args'[i]? = some a' → hasV (ltB m) a = true ∧ ∀ φ nx,Alike ρ φ nx ρ a' (subS s f a))
    (hneed : ∀ n o,look need n = some o → n < m ∧ hasO (ltB m) o = true ∧ ∃ o',look H (f n) = some o' ∧ ∀ φ nx,AlikeO ρ φ nx ρ o' (subSO s f o))
    (hr : hasV (ltB m2) r = true)
    (hHf : ∀ n' o',look Hf n' = some o' → (∃ n o,n < m2 ∧ look K n = some o ∧ hasO (ltB m2) o = true ∧ n' = f n ∧ ∀ φ nx,AlikeO ρ φ nx ρ o' (subSO s f o)) ∨ (look H n' = some o' ∧ ∀ n o,look need n = some o → f n ≠ n')) :
    TB ρ P g args' nx H (subS s f r) (nx + (m2 - m)) Hf := by
  refine ⟨h.1,fun w φ vals hok hsz hargs => ?_⟩
  have hψ : ∀ n,n < m → φ (f n) = (fun n => φ (f n)) n ∧ f n < nx := fun n hn => ⟨rfl,hf1 n hn⟩
  have hdead : ∀ {o o' : MO},(∀ φ nx,AlikeO ρ φ nx ρ o' (subSO s f o)) → (o' ≠ .dead ↔ o ≠ .dead) := fun d => (AlikeO.dead (d φ nx)).trans subSO_dead
  have hok' : Ok (sgS ρ s) (fun n => φ (f n)) m need w := by
    refine ⟨fun n o hn => ?_,fun n q o o' h1 h2 hne d1 d2 => ?_⟩
    · obtain ⟨a,b,o',c,d⟩ := hneed n o hn
      exact ⟨a,(subSO_iff hψ rfl b).1 (((d φ nx).2 w (f n)).1 (hok.obj _ _ c).2)⟩
    · obtain ⟨a1,_,o1,c1,e1⟩ := hneed n o h1
      obtain ⟨a2,_,o2,c2,e2⟩ := hneed q o' h2
      exact hok.dis (f n) (f q) o1 o2 c1 c2 (fun e => hne (hinj n q a1 a2 e)) ((hdead e1).2 d1) ((hdead e2).2 d2)
  refine (h.2 w (fun n => φ (f n)) vals hok' (by omega) fun i a v h1 h2 => ?_).mono ?_
  · have hlt : i < args'.length := by have := (List.getElem?_eq_some_iff.1 h1).1; omega
    obtain ⟨b,e⟩ := ha i a args'[i] h1 (by simp [hlt])
    exact (subS_iff hψ a b v).1 ((e φ nx v).1 (hargs i args'[i] v (by simp [hlt]) h2))
  rintro e w' ⟨φ1,v,he,hok1,hrv,hext,hle,hφ⟩
  have hφ2 : ∀ n,n < m2 → (fun k => if k < nx then φ k else φ1 (m + (k - nx))) (f n) = φ1 n ∧ f n < nx + (m2 - m) := by
    intro n hn
    by_cases c : n < m
    · have := hf1 n c
      exact ⟨by show (if f n < nx then _ else _) = _; rw [if_pos this]; exact (hφ n c).symm,by omega⟩
    · have e := hf2 n (by omega)
      refine ⟨?_,by omega⟩
      show (if f n < nx then _ else _) = _
      rw [if_neg (by omega),show m + (f n - nx) = n by omega]
  have hold : ∀ n,n < nx → (fun k => if k < nx then φ k else φ1 (m + (k - nx))) n = φ n := fun n hn => if_pos hn
  generalize (fun k => if k < nx then φ k else φ1 (m + (k - nx))) = φ2 at hφ2 hold
  have same : ∀ n' o',look H n' = some o' → (∀ n o,look need n = some o → f n ≠ n') → ObjOk ρ φ2 (nx + (m2 - m)) w' n' o' := by
    intro n' o' h1 h2
    obtain ⟨a,b⟩ := hok.obj n' o' h1
    refine b.step hold (by omega) a fun hd => hext.blk _ (b.lt hd) ?_
    rintro ⟨q,o2,q1,q2,q3⟩
    obtain ⟨_,_,o3,c,d⟩ := hneed q o2 q1
    exact hok.dis (f q) n' o3 o' c h1 (h2 q o2 q1) ((hdead d).2 q2) hd q3
  have mixed : ∀ n n' o o',look K n = some o → look H n' = some o' → (∀ n o,look need n = some o → f n ≠ n') → o ≠ .dead → o' ≠ .dead → (φ1 n).blk ≠ (φ n').blk := by
    intro n n' o o' h1 h3 h4 d1 d2 e
    have hlt := (hok.obj n' o' h3).2.lt d2
    obtain ⟨x,ox,x1,x2,x3⟩ := hext.own _ hlt ⟨n,o,h1,d1,e⟩
    obtain ⟨_,_,o3,c,d⟩ := hneed x ox x1
    exact hok.dis (f x) n' o3 o' c h3 (h4 x ox x1) ((hdead d).2 x2) d2 x3
  refine ⟨φ2,v,he,⟨fun n' o' hl => ?_,fun n' q' o o' h1 h2 hne d1 d2 => ?_⟩,(subS_iff hφ2 r hr v).2 hrv,⟨hext.os,hext.tape,hext.output,hext.size,fun b hb hO => hext.blk b hb ?_, ?_⟩,by omega,hold⟩
  · rcases hHf n' o' hl with ⟨n,o,a,b,c,rfl,d⟩|⟨a,b⟩
    · exact ⟨(hφ2 n a).2,((d φ2 _).2 w' (f n)).2 ((subSO_iff hφ2 (hφ2 n a).1 c).2 (hok1.obj n o b).2)⟩
    · exact ⟨by have := (hok.obj n' o' a).1; omega,same n' o' a b⟩
  · rcases hHf n' o h1 with ⟨n,q,a,b,c,rfl,d⟩|⟨a,b⟩ <;> rcases hHf q' o' h2 with ⟨n2,q2,a2,b2,c2,rfl,e2⟩|⟨a2,b2⟩
    · rw [(hφ2 n a).1,(hφ2 n2 a2).1]
      exact hok1.dis n n2 q q2 b b2 (fun e => hne (by rw [e])) ((hdead d).1 d1) ((hdead e2).1 d2)
    · rw [(hφ2 n a).1,hold q' (hok.obj q' o' a2).1]
      exact mixed n q' q o' b a2 b2 ((hdead d).1 d1) d2
    · rw [(hφ2 n2 a2).1,hold n' (hok.obj n' o a).1]
      exact fun e => mixed n2 n' q2 o b2 a b ((hdead e2).1 d2) d1 e.symm
    · rw [hold n' (hok.obj n' o a).1,hold q' (hok.obj q' o' a2).1]
      exact hok.dis n' q' o o' a a2 hne d1 d2
  · rintro ⟨q,o,q1,q2,q3⟩
    obtain ⟨_,_,o3,c,d⟩ := hneed q o q1
    exact hO ⟨f q,o3,c,(hdead d).2 q2,q3⟩
  · rintro b hb ⟨n',o',n1,n2,n3⟩
    rcases hHf n' o' n1 with ⟨n,q,a,b1,c,rfl,d⟩|⟨a,b1⟩
    · obtain ⟨x,ox,x1,x2,x3⟩ := hext.own b hb ⟨n,q,b1,(hdead d).1 n2,by rw [← (hφ2 n a).1]; exact n3⟩
      obtain ⟨_,_,o3,c3,d3⟩ := hneed x ox x1
      exact ⟨f x,o3,c3,(hdead d3).2 x2,x3⟩
    · exact ⟨n',o',a,n2,by rw [← hold n' (hok.obj n' o' a).1]; exact n3⟩
theorem sumB_ok {φ : Nat → Ph}{nx : Nat}{k : IntKind}{c : Int}{l : List Int}{b : MV} (h : sumB s k c l b = true) : ∀ u,Rel ρ φ nx b u ↔ Rel ρ φ nx (sumS s k c l) u := by
  intro u
  cases s with
  | none => rw [show sumS none k c l = .a k c l from rfl,int_rel]; exact eqK_ok (show eqK k c l b = true from h) u
  | some σ =>
    rw [show sumS (some σ) k c l = mk k (c + (subA σ l).1) (subA σ l).2 from rfl,mk_iff]
    exact eqK_ok (show eqK k (c + (subA σ l).1) (subA σ l).2 b = true from h) u
theorem eqW_agg : ∀ (cs ds : List MV),eqW s f (.agg cs) (.agg ds) = eqWL s f cs ds
  | [],ds => rfl
  | x :: t,[] => rfl
  | x :: t,y :: m => by
    show oc (eqW s f x y) (eqW s f (.agg t) (.agg m)) = oc (eqW s f x y) (eqWL s f t m)
    rw [eqW_agg t m]
theorem eqW_row {φ : Nat → Ph}{nx : Nat} : ∀ {l m : List MV},(∀ x ∈ l,∀ b,eqW s f x b = true → Alike ρ φ nx ρ b (subS s f x)) → eqWL s f l m = true → m.length = (l.map (subS s f)).length ∧ ∀ (i : Nat) c d,m[i]? = some c → (l.map (subS s f))[i]? = some d → Alike ρ φ nx ρ c d
  | [],m,_,h => by
    rw [nilB_nil (show nilB m = true from h)]
    exact ⟨rfl,fun i c d hc => by simp at hc⟩
  | x :: t,[],_,h => by cases (show false = true from h)
  | x :: t,y :: m,hx,h => by
    obtain ⟨h1,h2⟩ := oc_inv (show oc (eqW s f x y) (eqWL s f t m) = true from h)
    obtain ⟨h3,h4⟩ := eqW_row (fun z hz => hx z (List.mem_cons_of_mem _ hz)) h2
    refine ⟨by simp at h3; simp [h3],fun i c d hc hd => ?_⟩
    cases i with
    | zero => simp at hc hd; subst hc hd; exact hx x List.mem_cons_self y h1
    | succ i => exact h4 i c d (by simpa using hc) (by simpa using hd)
theorem eqW_ok {φ : Nat → Ph}{nx : Nat} (a : MV) : ∀ b,eqW s f a b = true → Alike ρ φ nx ρ b (subS s f a) := by
  refine @MV.rec (fun a => ∀ b,eqW s f a b = true → Alike ρ φ nx ρ b (subS s f a)) (fun l => ∀ x ∈ l,∀ b,eqW s f x b = true → Alike ρ φ nx ρ b (subS s f x)) ?_ ?_ ?_ ?_ ?_ ?_ ?_ ?_ ?_ ?_ ?_ ?_ ?_ a
  · intro x b h
    rcases onS_inv (show onS b _ _ _ = true from h) with ⟨_,_,_,_,_,_,h⟩|⟨_,_,_,h⟩|⟨y,rfl,h⟩
    · cases h
    · cases h
    · rw [eqX_ok h]; exact fun u => Iff.rfl
  · intro x b h
    rcases onB_inv (show onB b x (not x) = true from h) with ⟨e,hx⟩|⟨e,hx⟩
    · rw [e,hx]; exact fun u => Iff.rfl
    · have e2 : x = false := by simpa using hx
      rw [e,e2]; exact fun u => Iff.rfl
  · intro k c b h u
    rw [eqK_ok (show eqK k c [] b = true from h) u]
    show _ ↔ Rel ρ φ nx (.n k c) u
    rw [num_rel]; simp [dot]
  · intro k c l b h u
    exact sumB_ok h u
  · intro n o b h
    obtain ⟨m,p,rfl,h⟩ := onP_inv (show onP b _ = true from h)
    obtain ⟨h1,h2⟩ := oc_inv h
    show Alike ρ φ nx ρ (.ptr m p) (.ptr (f n) o)
    rw [Nat.eq_of_beq_eq_true h1,Nat.eq_of_beq_eq_true h2]; exact fun u => Iff.rfl
  · intro sz n o l c b h
    rcases onS_inv (show onS b _ _ _ = true from h) with ⟨sz',n',o',l',c',rfl,h⟩|⟨_,_,_,h⟩|⟨y,_,h⟩
    · obtain ⟨h1,h⟩ := oc_inv h
      obtain ⟨h2,h⟩ := oc_inv h
      obtain ⟨h3,h⟩ := oc_inv h
      obtain ⟨h4,h5⟩ := oc_inv h
      show Alike ρ φ nx ρ (.sl sz' n' o' l' c') (.sl sz (f n) o l c)
      rw [Nat.eq_of_beq_eq_true h1,Nat.eq_of_beq_eq_true h2,Nat.eq_of_beq_eq_true h3,Nat.eq_of_beq_eq_true h4,of_decide_eq_true h5]; exact fun u => Iff.rfl
    · cases h
    · cases h
  · intro cs ih b h
    cases b with
    | agg ds =>
      have h : eqW s f (.agg cs) (.agg ds) = true := h
      rw [eqW_agg] at h
      obtain ⟨h1,h2⟩ := eqW_row ih h
      rw [subS_agg]
      exact agg_alike h1 h2
    | _ => cases (show false = true from h)
  · intro cs ih b h
    cases b with
    | tup ds =>
      have h : eqW s f (.agg cs) (.agg ds) = true := h
      rw [eqW_agg] at h
      obtain ⟨h1,h2⟩ := eqW_row ih h
      rw [subS_tup]
      exact tup_alike h1 h2
    | _ => cases (show false = true from h)
  · intro g as0 bs i1 i2 b h
    cases b with
    | clo g' x y =>
      have h : oc (Nat.beq g g') (oc (eqW s f (.agg as0) (.agg x)) (eqW s f (.agg bs) (.agg y))) = true := h
      rw [eqW_agg,eqW_agg] at h
      obtain ⟨h1,h⟩ := oc_inv h
      obtain ⟨h2,h3⟩ := oc_inv h
      rw [subS_clo,← Nat.eq_of_beq_eq_true h1]
      exact clo_alike (eqW_row i1 h2).1 (eqW_row i1 h2).2 (eqW_row i2 h3).1 (eqW_row i2 h3).2
    | _ => cases (show false = true from h)
  · intro n b h
    obtain ⟨m,rfl,h⟩ := onM_inv (show onM b (fun m => Nat.beq (f n) m) = true from h)
    show Alike ρ φ nx ρ (.mp m) (.mp (f n))
    rw [Nat.eq_of_beq_eq_true h]; exact fun u => Iff.rfl
  · intro t x ih b h
    obtain ⟨u,y,rfl,h⟩ := onF_inv (show onF b (fun u y => oc (Nat.beq t u) (eqW s f x y)) = true from h)
    obtain ⟨h1,h2⟩ := oc_inv h
    show Alike ρ φ nx ρ (.ifc u y) (.ifc t (subS s f x))
    rw [← Nat.eq_of_beq_eq_true h1]
    exact ifc_alike (ih y h2)
  · intro x hx; cases hx
  · intro x t h1 h2 y hy
    rcases List.mem_cons.1 hy with rfl|hy
    · exact h1
    · exact h2 y hy
theorem eqWL_ok {φ : Nat → Ph}{nx : Nat}{l m : List MV} (h : eqWL s f l m = true) : m.length = (l.map (subS s f)).length ∧ ∀ (i : Nat) c d,m[i]? = some c → (l.map (subS s f))[i]? = some d → Alike ρ φ nx ρ c d :=
  eqW_row (fun x _ => eqW_ok x) h
theorem eqWR_ok {φ : Nat → Ph}{nx : Nat} : ∀ {l m : List (MV × MV)},eqWR s f l m = true → m.length = (l.map fun e => (subS s f e.1,subS s f e.2)).length ∧ ∀ (i : Nat) c d,m[i]? = some c → (l.map fun e => (subS s f e.1,subS s f e.2))[i]? = some d → Alike ρ φ nx ρ c.1 d.1 ∧ Alike ρ φ nx ρ c.2 d.2
  | [],m,h => by
    rw [nilB_nil (show nilB m = true from h)]
    exact ⟨rfl,fun i c d hc => by simp at hc⟩
  | x :: t,[],h => by cases (show false = true from h)
  | x :: t,y :: m,h => by
    obtain ⟨h1,h⟩ := oc_inv (show oc (eqW s f x.1 y.1) (oc (eqW s f x.2 y.2) (eqWR s f t m)) = true from h)
    obtain ⟨h2,h5⟩ := oc_inv h
    obtain ⟨h3,h4⟩ := eqWR_ok (φ := φ) (nx := nx) h5
    refine ⟨by simp at h3; simp [h3],fun i c d hc hd => ?_⟩
    cases i with
    | zero => simp at hc hd; subst hc hd; exact ⟨eqW_ok _ _ h1,eqW_ok _ _ h2⟩
    | succ i => exact h4 i c d (by simpa using hc) (by simpa using hd)
theorem eqWO_ok {φ : Nat → Ph}{nx : Nat}{a b : MO} (h : eqWO s f a b = true) : AlikeO ρ φ nx ρ b (subSO s f a) := by
  cases a with
  | cells l =>
    obtain ⟨m,rfl,h⟩ := onCells_inv (show onCells b (fun m => eqWL s f l m) = true from h)
    exact cells_alike (eqWL_ok (ρ := ρ) (φ := φ) (nx := nx) h).1 (eqWL_ok h).2
  | map l =>
    obtain ⟨m,rfl,h⟩ := onMap_inv (show onMap b (fun m => eqWR s f l m) = true from h)
    exact map_alike (eqWR_ok (ρ := ρ) (φ := φ) (nx := nx) h).1 (eqWR_ok h).2
  | dead =>
    cases b with
    | dead => exact ⟨Iff.rfl,fun w n => Iff.rfl⟩
    | _ => cases (show false = true from h)
theorem findN_length {args : List MV}{H : Heap} : ∀ {l : List Src}{nr nr' : List Nat}{c : Nat},findN args H l nr c = some nr' → nr'.length = nr.length + l.length
  | [],nr,nr',c,h => by cases (show some nr = some nr' from h); simp
  | x :: l,nr,nr',c,h => by
    obtain ⟨v,_,h⟩ := bo_some (show bo (valAt args H nr c x) _ = some nr' from h)
    obtain ⟨n,_,h⟩ := bo_some h
    rw [fNo_eq] at h
    rw [findN_length h]; simp; omega
theorem noDup_inj : ∀ {l : List Nat},noDup l = true → ∀ (i j x : Nat),l[i]? = some x → l[j]? = some x → i = j
  | [],_,i,j,x,h,_ => by simp at h
  | n :: t,h,i,j,x,hi,hj => by
    obtain ⟨h1,h2⟩ := oc_inv (show oc (allB (fun k => not (Nat.beq n k)) t) (noDup t) = true from h)
    have ne : ∀ y ∈ t,n ≠ y := fun y hy e => by have := allB_inv h1 y hy; rw [e,Nat.beq_refl] at this; cases this
    cases i with
    | zero => cases j with
      | zero => rfl
      | succ j => simp at hi hj; subst hi; exact absurd rfl (ne n (List.mem_of_getElem? hj))
    | succ i => cases j with
      | zero => simp at hi hj; subst hj; exact absurd rfl (ne n (List.mem_of_getElem? hi))
      | succ j => rw [noDup_inj h2 i j x (by simpa using hi) (by simpa using hj)]
theorem renN_low {nr : List Nat}{m nx k : Nat} (hk : k < m) (hl : nr.length = m) : nr[m - 1 - k]? = some (renN nr m nx k) := by
  unfold renN
  rw [show Nat.ble (Nat.succ k) m = true from Nat.ble_eq_true_of_le hk]
  show nr[m - 1 - k]? = some (Option.rec (motive := fun _ => Nat) 0 (fun n => n) (nmAt nr m k))
  unfold nmAt
  rw [nth_eq]
  have hlt : m - 1 - k < nr.length := by omega
  show nr[m - 1 - k]? = some (Option.rec (motive := fun _ => Nat) 0 (fun n => n) nr[m - 1 - k]?)
  simp [hlt]
theorem renN_high {nr : List Nat}{m nx k : Nat} (hk : m ≤ k) : renN nr m nx k = nx + (k - m) := by
  unfold renN
  have : Nat.ble (Nat.succ k) m = false := by
    cases hb : Nat.ble (Nat.succ k) m with
    | false => rfl
    | true => have := Nat.le_of_ble_eq_true hb; omega
  rw [this]; rfl
theorem onceB_mem : ∀ {l : Heap}{n : Nat}{o : MO},onceB l = true → (n,o) ∈ l → look l n = some o
  | [],n,o,_,hm => by cases hm
  | p :: t,n,o,h,hm => by
    simp only [onceB] at h
    cases hq : look t p.1 with
    | some x => rw [hq] at h; cases (show false = true from h)
    | none =>
      rw [hq] at h
      have h : onceB t = true := h
      rw [look_cons]
      rcases List.mem_cons.1 hm with e|hm
      · subst e; rw [if_pos rfl]
      · have e := onceB_mem h hm
        rw [if_neg (fun e2 => by subst e2; rw [hq] at e; cases e)]; exact e
def TRuleAt (ρ : Nat → Int) (P : Program) (r : TRule) : Prop := fineT r = true ∧ ∃ v H',TB ρ P r.g r.args r.m r.need v r.m2 H' ∧ (∀ φ nx,Alike ρ φ nx ρ v r.res) ∧ (∀ n o,look r.need n = some o → ∃ o',look H' n = some o' ∧ ∀ φ nx,AlikeO ρ φ nx ρ o' (laterT r n o)) ∧
  ∀ n o,look r.out n = some o → ∃ o',look H' n = some o' ∧ ∀ φ nx,AlikeO ρ φ nx ρ o' o
def TOk (ρ : Nat → Int) (P : Program) (r : TRule) : Prop := match r.reads with
  | none => TRuleAt ρ P r
  | some _ => ∀ ρ',OkD r.D ρ' → TRuleAt ρ' P r
def TRulesOk (ρ : Nat → Int) (P : Program) (rs : TRs) : Prop := ∀ p ∈ rs,∀ r ∈ p.2,TOk ρ P r
theorem sgT_some {args : List MV}{H : Heap}{nr : List Nat}{m : Nat}{l : Option (List Src)}{s : Option Sg} (h : sgT args H nr m l = some s) : (l = none ∧ s = none) ∨ (∃ x σ,l = some x ∧ s = some σ) := by
  cases l with
  | none => cases (show some none = some s from h); exact .inl ⟨rfl,rfl⟩
  | some x =>
    obtain ⟨σ,_,h⟩ := bo_some (show bo (sgL args H nr m x) (fun σ => some (some σ)) = some s from h)
    cases h
    exact .inr ⟨x,σ,rfl,rfl⟩
theorem hasO_le {p0 q0 : Nat} (hmm : p0 ≤ q0) {o : MO} (ho : hasO (ltB p0) o = true) : hasO (ltB q0) o = true := by
  have hv : ∀ x : MV,hasV (ltB p0) x = true → hasV (ltB q0) x = true := by
    intro x
    have row : ∀ {l : List MV},(∀ x ∈ l,hasV (ltB p0) x = true → hasV (ltB q0) x = true) → allB (hasV (ltB p0)) l = true → allB (hasV (ltB q0)) l = true := fun h h' => allB_intro fun a ha => h a ha (allB_inv h' a ha)
    have lt : ∀ n,ltB p0 n = true → ltB q0 n = true := fun n h => decide_eq_true (Nat.lt_of_lt_of_le (of_decide_eq_true h) hmm)
    refine @MV.rec (fun x => hasV (ltB p0) x = true → hasV (ltB q0) x = true) (fun l => ∀ x ∈ l,hasV (ltB p0) x = true → hasV (ltB q0) x = true) (fun _ _ => rfl) (fun _ _ => rfl) (fun _ _ _ => rfl) (fun _ _ _ _ => rfl) (fun n _ h => lt n h) (fun _ n _ _ _ h => lt n h) (fun cs ih h => ?_) (fun cs ih h => ?_) (fun g a b i1 i2 h => ?_) (fun n h => lt n h) (fun _ _ ih h => ih h) ?_ ?_ x
    · rw [hasV_agg] at h ⊢; exact row ih h
    · rw [hasV_tup] at h ⊢; exact row ih h
    · rw [hasV_clo] at h ⊢; obtain ⟨p,q⟩ := oc_inv h; exact oc_intro (row i1 p) (row i2 q)
    · intro x hx; cases hx
    · intro x t a b y hy
      rcases List.mem_cons.1 hy with rfl|hy
      · exact a
      · exact b y hy
  cases o with
  | cells l => exact allB_intro fun a ha => hv a (allB_inv (show allB (hasV (ltB p0)) l = true from ho) a ha)
  | map es => exact allB_intro fun a ha => by obtain ⟨p,q⟩ := oc_inv (allB_inv (show allB (fun e => oc (hasV (ltB p0) e.1) (hasV (ltB p0) e.2)) es = true from ho) a ha); exact oc_intro (hv _ p) (hv _ q)
  | dead => rfl
theorem trule_use {r : TRule} (hr : TOk ρ P r) (hD : OkD D ρ) {args : List MV}{nx : Nat}{H : Heap}{nr : List Nat} (hfd : findN args H r.src [] 0 = some nr) (hsg : sgT args H nr r.m r.reads = some s) (hh : hitT D r args nx H nr s = true) :
    TB ρ P r.g args nx H (subS s (renN nr r.m nx) r.res) (nx + (r.m2 - r.m)) ((r.out.map fun p => (renN nr r.m nx p.1,subSO s (renN nr r.m nx) p.2)).reverse ++ H) := by
  obtain ⟨h1,hh⟩ := oc_inv hh
  obtain ⟨h2,hh⟩ := oc_inv hh
  obtain ⟨h3,hh⟩ := oc_inv hh
  obtain ⟨h4,h5⟩ := oc_inv hh
  have hat : TRuleAt (sgS ρ s) P r := by
    unfold TOk at hr
    rcases sgT_some hsg with ⟨e1,e2⟩|⟨x,σ,e1,e2⟩
    · rw [e1] at hr; rw [e2]; exact hr
    · rw [e1] at hr; rw [e2] at h5 ⊢
      obtain ⟨h6,h7⟩ := oc_inv (show oc (okB D σ r.D.bs) (okF D σ r.D.fs) = true from h5)
      exact hr _ ⟨okB_ok hD _ _ h6,okF_ok hD _ h7⟩
  obtain ⟨hfine,v,H',ht,hv,hn1,hn2⟩ := hat
  obtain ⟨f0,hfine⟩ := oc_inv hfine
  obtain ⟨f1,hfine⟩ := oc_inv hfine
  obtain ⟨f2,hfine⟩ := oc_inv hfine
  obtain ⟨f3,hfine⟩ := oc_inv hfine
  obtain ⟨f4,hfine⟩ := oc_inv hfine
  obtain ⟨f5,f6⟩ := oc_inv hfine
  rw [ble_lt] at f2 f3 f4
  rw [ble_lt] at f5
  have hlen : nr.length = r.m := by
    have a := findN_length hfd
    have b := Nat.eq_of_beq_eq_true f1
    rw [len_eq] at b
    rw [a]; simpa using b
  have hmm := Nat.le_of_ble_eq_true f0
  have fneed : ∀ n o,look r.need n = some o → n < r.m ∧ hasO (ltB r.m) o = true := fun n o hn => by
    obtain ⟨a,b⟩ := oc_inv (allB_inv f4 _ (look_mem hn))
    exact ⟨Nat.le_of_ble_eq_true a,b⟩
  have mono : ∀ {o : MO},hasO (ltB r.m) o = true → hasO (ltB r.m2) o = true := fun ho => hasO_le hmm ho
  have fout : ∀ n o,look r.out n = some o → n < r.m2 ∧ (n < r.m → ∃ o',look r.need n = some o') ∧ hasO (ltB r.m2) o = true := fun n o hn => by
    obtain ⟨a,b⟩ := oc_inv (allB_inv f5 _ (look_mem hn))
    rcases ow_inv (show ow (Nat.ble r.m n) (Nat.ble (Nat.succ n) r.m2) (someB (look r.need n)) = true from a) with ⟨c,d⟩|⟨c,d⟩
    · exact ⟨Nat.le_of_ble_eq_true d,fun e => by have := Nat.le_of_ble_eq_true c; omega,b⟩
    · obtain ⟨o',d⟩ := someB_inv d
      exact ⟨Nat.lt_of_lt_of_le (fneed n o' d).1 hmm,fun _ => ⟨o',d⟩,b⟩
  have t0 : TB (sgS ρ s) P r.g r.args r.m r.need r.res r.m2 (r.out ++ r.need) := by
    have t1 : TB (sgS ρ s) P r.g r.args r.m r.need v r.m2 (selG H' ((r.out ++ r.need).map (·.1))) := ht.frame (fun n o hn => hn) fun n o hn => by
      rw [look_selG] at hn
      split at hn
      · exact .inl hn
      · cases hn
    have hin : ∀ n o,look (r.out ++ r.need) n = some o → ∃ o',look H' n = some o' ∧ ∀ φ nx,AlikeO (sgS ρ s) φ nx (sgS ρ s) o' o := fun n o hn => by
      rw [look_app] at hn
      cases hq : look r.out n with
      | some x => rw [hq] at hn; have hn : x = o := by simpa using hn
                  subst hn; exact hn2 n x hq
      | none =>
        rw [hq] at hn
        have hn : look r.need n = some o := by simpa using hn
        obtain ⟨o',a,b⟩ := hn1 n o hn
        refine ⟨o',a,fun φ nx => ?_⟩
        have := b φ nx
        unfold laterT at this
        rw [hq] at this
        exact this
    refine t1.alike rfl (fun i a a' h1 h2 φ nx => by rw [h1] at h2; cases h2; exact fun u => Iff.rfl) ⟨fun n o hn => ⟨o,hn,fun φ nx => ⟨Iff.rfl,fun w n => Iff.rfl⟩⟩,fun n o hn => ⟨o,hn,fun φ nx => ⟨Iff.rfl,fun w n => Iff.rfl⟩⟩⟩ (fun φ nx => (hv φ nx).symm) ⟨fun n o hn => ?_,fun n o hn => ?_⟩
    · obtain ⟨o',a,b⟩ := hin n o hn
      refine ⟨o', ?_,fun φ nx => (b φ nx).symm⟩
      rw [look_selG,if_pos (mem_keys.2 ⟨o,hn⟩)]; exact a
    · rw [look_selG] at hn
      split at hn
      · rename_i hmem
        obtain ⟨o1,hq⟩ := mem_keys.1 hmem
        obtain ⟨o',a,b⟩ := hin n o1 hq
        rw [hn] at a; cases a
        exact ⟨o1,hq,fun φ nx => (b φ nx).symm⟩
      · cases hn
  have hlow : ∀ n,n < r.m → renN nr r.m nx n < nx := fun n hn => Nat.le_of_ble_eq_true (allB_inv h4 _ (List.mem_of_getElem? (renN_low (nx := nx) hn hlen)))
  have hinj : ∀ n q,n < r.m → q < r.m → renN nr r.m nx n = renN nr r.m nx q → n = q := fun n q hn hq e => by
    have a := renN_low (nx := nx) hn hlen
    have b := renN_low (nx := nx) hq hlen
    rw [e] at a
    have := noDup_inj h3 _ _ _ a b
    omega
  have hneed : ∀ n o,look r.need n = some o → ∃ o',look H (renN nr r.m nx n) = some o' ∧ ∀ φ nx',AlikeO ρ φ nx' ρ o' (subSO s (renN nr r.m nx) o) := fun n o hn => by
    obtain ⟨o',a,b⟩ := ob_inv (allB_inv h2 _ (look_mem hn))
    exact ⟨o',a,fun φ nx' => eqWO_ok b⟩
  have hHlow : ∀ n o,n < r.m → look r.out n = some o → ∃ o',look H (renN nr r.m nx n) = some o' := fun n o hn ho => by
    obtain ⟨o1,a⟩ := (fout n o ho).2.1 hn
    obtain ⟨o2,b,_⟩ := hneed n o1 a
    exact ⟨o2,b⟩
  have e1 := fun (φ : Nat → Ph) (nx' : Nat) => (eqWL_ok (ρ := ρ) (φ := φ) (nx := nx') h1)
  have hfeq : ∀ n q,n < r.m2 → q < r.m2 → renN nr r.m nx n = renN nr r.m nx q → n = q := fun n q hn hq e => by
    by_cases c : n < r.m <;> by_cases d : q < r.m
    · exact hinj n q c d e
    · have := hlow n c; rw [renN_high (k := q) (by omega)] at e; omega
    · have := hlow q d; rw [renN_high (k := n) (by omega)] at e; omega
    · rw [renN_high (k := q) (by omega),renN_high (k := n) (by omega)] at e; omega
  have hout : ∀ n' o',look ((r.out.map fun p => (renN nr r.m nx p.1,subSO s (renN nr r.m nx) p.2)).reverse ++ H) n' = some o' →
      (∃ n o,look r.out n = some o ∧ n' = renN nr r.m nx n ∧ o' = subSO s (renN nr r.m nx) o) ∨ (look H n' = some o' ∧ ∀ n o,look r.out n = some o → renN nr r.m nx n ≠ n') := by
    intro n' o' hn
    rw [look_app] at hn
    cases hq : look (r.out.map fun p => (renN nr r.m nx p.1,subSO s (renN nr r.m nx) p.2)).reverse n' with
    | some x =>
      rw [hq] at hn
      have hn : x = o' := by simpa using hn
      subst hn
      have hmem := List.mem_reverse.1 (look_mem hq)
      obtain ⟨⟨n,o⟩,hp,he⟩ := List.mem_map.1 hmem
      simp only [Prod.mk.injEq] at he
      obtain ⟨e1,e2⟩ := he
      exact .inl ⟨n,o,onceB_mem f6 hp,e1.symm,e2.symm⟩
    | none =>
      rw [hq] at hn
      refine .inr ⟨by simpa using hn,fun n o ho e => ?_⟩
      obtain ⟨z,hz⟩ := mem_look (List.mem_reverse.2 (List.mem_map.2 ⟨(n,o),look_mem ho,rfl⟩ : (renN nr r.m nx n,subSO s (renN nr r.m nx) o) ∈ r.out.map fun p => (renN nr r.m nx p.1,subSO s (renN nr r.m nx) p.2)))
      rw [e,hq] at hz; cases hz
  refine t0.ren hmm hlow (fun n hn => renN_high hn) hinj (by have := (e1 (fun _ => default) 0).1; simpa using this) (fun i a a' ha ha' => ⟨allB_inv f2 a (List.mem_of_getElem? ha),fun φ nx' => (e1 φ nx').2 i a' _ ha' (by rw [List.getElem?_map,ha]; rfl)⟩) (fun n o hn => ⟨(fneed n o hn).1,(fneed n o hn).2,hneed n o hn⟩) f3 fun n' o' hn => ?_
  rcases hout n' o' hn with ⟨n,o,ho,e1,e2⟩|⟨ho,hno⟩
  · refine .inl ⟨n,o,(fout n o ho).1,by rw [look_app,ho]; rfl,(fout n o ho).2.2,e1,fun φ nx' => ?_⟩
    rw [e2]; exact ⟨Iff.rfl,fun w n => Iff.rfl⟩
  · by_cases c : ∃ n o,look r.need n = some o ∧ renN nr r.m nx n = n'
    · obtain ⟨n,o,a,b⟩ := c
      obtain ⟨o2,d1,d2⟩ := hneed n o a
      rw [b,ho] at d1; cases d1
      have hno' : look r.out n = none := by
        cases hq : look r.out n with
        | none => rfl
        | some x => exact absurd b (hno n x hq)
      exact .inl ⟨n,o,Nat.lt_of_lt_of_le (fneed n o a).1 hmm,by rw [look_app,hno']; simpa using a,mono (fneed n o a).2,b.symm,d2⟩
    · exact .inr ⟨ho,fun n o a b => c ⟨n,o,a,b⟩⟩
theorem tW1_ok {r : TRule} (hr : TOk ρ P r) (hD : OkD D ρ) {args : List MV}{nx : Nat}{H : Heap}{k : KV}{e : Bool} (h : tW1 D r args nx H k e = true) : e = true ∨ ∃ v nx' H',TB ρ P r.g args nx H v nx' H' ∧ k v nx' H' = true ∧ Suf H H' := by
  have h : (Option.rec (motive := fun _ => Bool) e (fun nr => Option.rec (motive := fun _ => Bool) e (fun s => ow (hitT D r args nx H nr s)
    (outK s (renN nr r.m nx) r.out H fun Hf => subK s (renN nr r.m nx) r.res fun v => fN (Nat.add nx (Nat.sub r.m2 r.m)) fun nx' => k v nx' Hf) e) (sgT args H nr r.m r.reads)) (findN args H r.src [] 0) : Bool) = true := h
  cases h1 : findN args H r.src [] 0 with
  | none => rw [h1] at h; exact .inl h
  | some nr =>
    rw [h1] at h
    change (Option.rec (motive := fun _ => Bool) e (fun s => ow (hitT D r args nx H nr s) (outK s (renN nr r.m nx) r.out H fun Hf => subK s (renN nr r.m nx) r.res fun v => fN (Nat.add nx (Nat.sub r.m2 r.m)) fun nx' => k v nx' Hf) e) (sgT args H nr r.m r.reads) : Bool) = true at h
    cases h2 : sgT args H nr r.m r.reads with
    | none => rw [h2] at h; exact .inl h
    | some s =>
      rw [h2] at h
      rcases ow_inv (show ow (hitT D r args nx H nr s) (outK s (renN nr r.m nx) r.out H fun Hf => subK s (renN nr r.m nx) r.res fun v => fN (Nat.add nx (Nat.sub r.m2 r.m)) fun nx' => k v nx' Hf) e = true from h) with ⟨h3,h4⟩|⟨_,h4⟩
      · rw [outK_eq,subK_eq,fN_eq] at h4
        exact .inr ⟨_,_,_,trule_use hr hD h1 h2 h3,h4,_,rfl⟩
      · exact .inl h4
theorem tsW_ok (hD : OkD D ρ) {rs : TRs} (hrs : TRulesOk ρ P rs) {e : CallK} (he : CallOk ρ P e) : CallOk ρ P (tsW D rs e) := by
  intro g args nx H k h
  have hl : ∀ r ∈ tsOf rs g,TOk ρ P r := by
    intro r hr
    unfold tsOf at hr
    cases hq : look rs g with
    | none => rw [hq] at hr; cases hr
    | some l => rw [hq] at hr; exact hrs _ (look_mem hq) r hr
  have h : (List.rec (motive := fun _ => Bool) (e g args nx H k) (fun r _ ih => ow (Nat.beq g r.g) (tW1 D r args nx H k ih) ih) (tsOf rs g) : Bool) = true := h
  generalize tsOf rs g = l at h hl
  induction l with
  | nil => exact he h
  | cons r t ih =>
    have ih := fun h => ih h fun q hq => hl q (List.mem_cons_of_mem _ hq)
    rcases ow_inv (show ow (Nat.beq g r.g) (tW1 D r args nx H k _) _ = true from h) with ⟨h1,h2⟩|⟨_,h2⟩
    · rcases tW1_ok (hl r List.mem_cons_self) hD h2 with h3|⟨v,nx',H',a,b,c⟩
      · exact ih h3
      · rw [← Nat.eq_of_beq_eq_true h1] at a
        exact ⟨v,nx',H',a,b,c⟩
    · exact ih h2
def PFactOk (ρ : Nat → Int) (P : Program) (f : PFact) : Prop := ∀ nx H args,fpsB H f.pats args = true → TB ρ P f.g args nx H f.res nx H
def PFactsOk (ρ : Nat → Int) (P : Program) (fs : List PFact) : Prop := ∀ f ∈ fs,PFactOk ρ P f
theorem pfactW_ok {f : PFact} (hf : PFactOk ρ P f) {e : CallK} (he : CallOk ρ P e) : CallOk ρ P (pfactW f e) := by
  intro g args nx H k h
  rcases ow_inv (show ow (Nat.beq g f.g) (ow (fpsB H f.pats args) (k f.res nx H) (e g args nx H k)) (e g args nx H k) = true from h) with ⟨h1,h2⟩|⟨_,h2⟩
  · rcases ow_inv h2 with ⟨h3,h4⟩|⟨_,h4⟩
    · have h5 := hf nx H args h3
      rw [← Nat.eq_of_beq_eq_true h1] at h5
      exact ⟨_,_,_,h5,h4,Suf.refl H⟩
    · exact he h4
  · exact he h2
theorem pfactsW_ok {e : CallK} (he : CallOk ρ P e) : ∀ {fs : List PFact},PFactsOk ρ P fs → CallOk ρ P (pfactsW fs e)
  | [],_ => he
  | f :: fs,h => pfactW_ok (h f List.mem_cons_self) (pfactsW_ok he fun q hq => h q (List.mem_cons_of_mem _ hq))
theorem runY_ok (hm : P.follows .mixedOrders = true) (hD : OkD D ρ) {fs : List PFact} (hfs : PFactsOk ρ P fs) {rs : TRs} (hrs : TRulesOk ρ P rs) (gs : List Nat) : ∀ (n : Nat),CallOk ρ P (runY P D fs rs gs n)
  | 0 => fun h => by cases (show false = true from h)
  | n + 1 => pfactsW_ok (tsW_ok hD hrs (gcW_ok (stepF_ok hD (drawOk hm hD) (runY_ok hm hD hfs hrs gs n)) gs)) hfs
theorem TB.few {g : Nat}{args : List MV}{m m' m2 : Nat}{need K : Heap}{r : MV} (h : TB ρ P g args m need r m' K) (h1 : m ≤ m2) (hr : hasV (ltB m2) r = true) (hK : ∀ n o,look K n = some o → n < m2 ∧ hasO (ltB m2) o = true) : TB ρ P g args m need r m2 K := by
  refine ⟨h.1,fun w φ vals hok hsz hargs => (h.2 w φ vals hok hsz hargs).mono ?_⟩
  rintro e w' ⟨φ',v,he,hok',hrv,hext,_,hφ⟩
  exact ⟨φ',v,he,⟨fun n o hl => ⟨(hK n o hl).1,(hok'.obj n o hl).2.less (fun n _ hp => ⟨rfl,of_decide_eq_true hp⟩) rfl (hK n o hl).2⟩,hok'.dis⟩,hrv.less (fun n _ hp => ⟨rfl,of_decide_eq_true hp⟩) hr,hext,h1,hφ⟩
theorem TRuleAt.of {r : TRule} (hfine : fineT r = true) {v : MV}{m' : Nat}{H' : Heap} (ht : TB ρ P r.g r.args r.m r.need v m' H') (hk : keptT r v m' H' = true) : TRuleAt ρ P r := by
  have hfin0 := hfine
  obtain ⟨f0,hfine⟩ := oc_inv hfine
  obtain ⟨f1,hfine⟩ := oc_inv hfine
  obtain ⟨f2,hfine⟩ := oc_inv hfine
  obtain ⟨f3,hfine⟩ := oc_inv hfine
  obtain ⟨f4,hfine⟩ := oc_inv hfine
  obtain ⟨f5,f6⟩ := oc_inv hfine
  rw [ble_lt] at f2 f3 f4
  rw [ble_lt] at f5
  have hmm := Nat.le_of_ble_eq_true f0
  obtain ⟨_,hk⟩ := oc_inv hk
  obtain ⟨k1,hk⟩ := oc_inv hk
  obtain ⟨k2,k3⟩ := oc_inv hk
  have hv : ∀ φ nx,Alike ρ φ nx ρ v r.res := fun φ nx => eqV_ok v _ k1
  have hin : ∀ n o,look (r.out ++ r.need) n = some o → ∃ o',look H' n = some o' ∧ ∀ φ nx,AlikeO ρ φ nx ρ o' o := fun n o hn => by
    rw [look_app] at hn
    cases hq : look r.out n with
    | some x =>
      rw [hq] at hn
      have hn : x = o := by simpa using hn
      subst hn
      obtain ⟨o',a,b⟩ := ob_inv (allB_inv k3 _ (look_mem hq))
      exact ⟨o',a,fun φ nx => eqO_ok b⟩
    | none =>
      rw [hq] at hn
      have hn : look r.need n = some o := by simpa using hn
      obtain ⟨o',a,b⟩ := ob_inv (allB_inv k2 _ (look_mem hn))
      have b : eqO o' (laterT r n o) = true := b
      unfold laterT at b
      rw [hq] at b
      exact ⟨o',a,fun φ nx => eqO_ok b⟩
  have hnames : ∀ n o,look (r.out ++ r.need) n = some o → n < r.m2 ∧ hasO (ltB r.m2) o = true := fun n o hn => by
    rw [look_app] at hn
    have fneed : ∀ n o,look r.need n = some o → n < r.m ∧ hasO (ltB r.m) o = true := fun n o hn => by
      obtain ⟨a,b⟩ := oc_inv (allB_inv f4 _ (look_mem hn))
      exact ⟨Nat.le_of_ble_eq_true a,b⟩
    cases hq : look r.out n with
    | some x =>
      rw [hq] at hn
      have hn : x = o := by simpa using hn
      subst hn
      obtain ⟨a,b⟩ := oc_inv (allB_inv f5 _ (look_mem hq))
      rcases ow_inv (show ow (Nat.ble r.m n) (Nat.ble (Nat.succ n) r.m2) (someB (look r.need n)) = true from a) with ⟨c,d⟩|⟨c,d⟩
      · exact ⟨Nat.le_of_ble_eq_true d,b⟩
      · obtain ⟨o',d⟩ := someB_inv d
        exact ⟨Nat.lt_of_lt_of_le (fneed n o' d).1 hmm,b⟩
    | none =>
      rw [hq] at hn
      have hn : look r.need n = some o := by simpa using hn
      exact ⟨Nat.lt_of_lt_of_le (fneed n o hn).1 hmm,hasO_le hmm (fneed n o hn).2⟩
  have t1 : TB ρ P r.g r.args r.m r.need v m' (selG H' ((r.out ++ r.need).map (·.1))) := ht.frame (fun n o hn => hn) fun n o hn => by
    rw [look_selG] at hn
    split at hn
    · exact .inl hn
    · cases hn
  have t2 : TB ρ P r.g r.args r.m r.need r.res m' (r.out ++ r.need) := by
    refine t1.alike rfl (fun i a a' h1 h2 φ nx => by rw [h1] at h2; cases h2; exact fun u => Iff.rfl) ⟨fun n o hn => ⟨o,hn,fun φ nx => ⟨Iff.rfl,fun w n => Iff.rfl⟩⟩,fun n o hn => ⟨o,hn,fun φ nx => ⟨Iff.rfl,fun w n => Iff.rfl⟩⟩⟩ (fun φ nx => (hv φ nx).symm) ⟨fun n o hn => ?_,fun n o hn => ?_⟩
    · obtain ⟨o',a,b⟩ := hin n o hn
      refine ⟨o', ?_,fun φ nx => (b φ nx).symm⟩
      rw [look_selG,if_pos (mem_keys.2 ⟨o,hn⟩)]; exact a
    · rw [look_selG] at hn
      split at hn
      · rename_i hmem
        obtain ⟨o1,hq⟩ := mem_keys.1 hmem
        obtain ⟨o',a,b⟩ := hin n o1 hq
        rw [hn] at a; cases a
        exact ⟨o1,hq,fun φ nx => (b φ nx).symm⟩
      · cases hn
  refine ⟨hfin0,r.res,r.out ++ r.need,t2.few hmm f3 hnames,fun φ nx u => Iff.rfl,fun n o hn => ⟨laterT r n o, ?_,fun φ nx => ⟨Iff.rfl,fun w n => Iff.rfl⟩⟩,fun n o hn => ⟨o, ?_,fun φ nx => ⟨Iff.rfl,fun w n => Iff.rfl⟩⟩⟩
  · rw [look_app,hn]
    unfold laterT
    cases look r.out n <;> rfl
  · rw [look_app,hn]; rfl
theorem TOk.gen {r : TRule}{l : List Src} (hl : r.reads = some l) (h : ∀ ρ',OkD r.D ρ' → TRuleAt ρ' P r) : TOk ρ P r := by unfold TOk; rw [hl]; exact h
theorem TOk.own {r : TRule} (hl : r.reads = none) (h : TRuleAt ρ P r) : TOk ρ P r := by unfold TOk; rw [hl]; exact h
theorem pfacts_nil : PFactsOk ρ P [] := fun f hf => by cases hf
theorem pfacts_cons {f : PFact}{fs : List PFact} (h : PFactOk ρ P f) (hs : PFactsOk ρ P fs) : PFactsOk ρ P (f :: fs) := fun q hq => by
  rcases List.mem_cons.1 hq with rfl|hq
  · exact h
  · exact hs q hq
theorem tr_nil : TRulesOk ρ P [] := fun p hp => by cases hp
theorem tr_nil1 {g : Nat}{rs : TRs} (hs : TRulesOk ρ P rs) : TRulesOk ρ P ((g,[]) :: rs) := fun p hp r hr => by
  rcases List.mem_cons.1 hp with rfl|hp
  · cases hr
  · exact hs p hp r hr
theorem tr_cons {g : Nat}{r : TRule}{l : List TRule}{rs : TRs} (h : TOk ρ P r) (hs : TRulesOk ρ P ((g,l) :: rs)) : TRulesOk ρ P ((g,r :: l) :: rs) := fun p hp q hq => by
  rcases List.mem_cons.1 hp with rfl|hp
  · rcases List.mem_cons.1 hq with rfl|hq
    · exact h
    · exact hs (g,l) List.mem_cons_self q hq
  · exact hs p (List.mem_cons_of_mem _ hp) q hq
theorem Fact.pfact {f : Fact} (h : FactOk ρ P f) : PFactOk ρ P ⟨f.g,f.args.map FP.val,f.res⟩ := by
  intro nx H args hm
  obtain ⟨f1,f2,nx',H',t⟩ := h
  unfold noneV at f1 f2
  rw [lt_none] at f1 f2
  have t2 : TB ρ P f.g f.args nx H f.res nx H := t.use (Nat.zero_le _) (fun a ha => allB_inv f1 a ha) (fun n o hn => by rw [look_nil] at hn; cases hn) f2 fun n o hn => .inr ⟨hn,look_nil n⟩
  have e2 : ∀ (l m : List MV),fpsB H (l.map FP.val) m = true → m.length = l.length ∧ ∀ (i : Nat) a a',m[i]? = some a → l[i]? = some a' → ∀ φ nx,Alike ρ φ nx ρ a a' := by
    intro l
    induction l with
    | nil => intro m h; rw [nilB_nil (show nilB m = true from h)]; exact ⟨rfl,fun i a a' ha => by simp at ha⟩
    | cons x l ih =>
      intro m h
      cases m with
      | nil => cases (show false = true from h)
      | cons y m =>
        obtain ⟨h1,h2⟩ := oc_inv (show oc (eqV x y) (fpsB H (l.map FP.val) m) = true from h)
        obtain ⟨h3,h4⟩ := ih m h2
        refine ⟨by simp [h3],fun i a a' ha ha' φ nx => ?_⟩
        cases i with
        | zero => simp at ha ha'; subst ha ha'; exact (eqV_ok _ _ h1).symm
        | succ i => exact h4 i a a' (by simpa using ha) (by simpa using ha') φ nx
  obtain ⟨e3,e4⟩ := e2 _ _ hm
  have hH : AlikeH ρ ρ H H := ⟨fun n o hn => ⟨o,hn,fun φ nx => ⟨Iff.rfl,fun w n => Iff.rfl⟩⟩,fun n o hn => ⟨o,hn,fun φ nx => ⟨Iff.rfl,fun w n => Iff.rfl⟩⟩⟩
  exact t2.alike e3 e4 hH (fun φ nx u => Iff.rfl) hH
end
structure LHint where
  reg : Nat
  slots : List Nat
  cnt : Nat
  p : Nat
  ci : Nat
  src : List Src
  start : MV
  kc : Int
  kl : List Int
noncomputable section
def firstR (c : Code) : Nat := Code.rec (motive := fun _ => Nat) 0 (fun id _ _ => id) (fun _ _ a _ => a) (fun _ _ _ a _ => a) (fun _ _ a => a) (fun _ a => a) (fun _ _ _ _ _ _ => 0) (fun _ => 0) (fun _ _ => 0) (fun _ => 0) (fun _ => 0) 0 (fun _ => 0) c
def pickE (env : Env) (l : List Nat) : Option Env := List.rec (motive := fun _ => Option Env) (some []) (fun s _ ih => bo (look env s) fun v => bo ih fun r => some ((s,v) :: r)) l
def pickH (H : Heap) (l : List Nat) : Option Heap := List.rec (motive := fun _ => Option Heap) (some []) (fun s _ ih => bo (look H s) fun v => bo ih fun r => some ((s,v) :: r)) l
def sumK (v : MV) (κ : Int → List Int → Bool) : Bool := onI v (fun k c => oc (keq k .i64) (κ c [])) (fun k c l => oc (keq k .i64) (κ c l)) false
def shV (c : Int) (l : List Int) (v : Nat) : MV := .a .i64 c (addL l (unitL v))
def lowV (v : Nat) (a : MV) : Bool := @MV.rec (fun _ => Bool) (fun _ => Bool) (fun _ => true) (fun _ => true) (fun _ _ => true) (fun _ _ l => Nat.ble (len l) v) (fun _ _ => true) (fun _ _ _ _ _ => true) (fun _ ih => ih) (fun _ ih => ih) (fun _ _ _ i1 i2 => oc i1 i2) (fun _ => true) (fun _ _ ih => ih) true (fun _ _ i1 i2 => oc i1 i2) a
def lowO (v : Nat) (o : MO) : Bool := MO.rec (motive := fun _ => Bool) (fun l => allB (lowV v) l) (fun es => allB (fun e => oc (lowV v e.1) (lowV v e.2)) es) true o
def topI : Int := 9223372036854775807
def dmX (D : Dm) (kc : Int) (kl : List Int) : Dm := ⟨D.bs ++ [(0,topI)],D.fs ++ [(kc - 1,addL kl (negL (unitL (len D.bs))))]⟩
def chkA (envw : Env) (nx : Nat) (hs Hw : Heap) : KC := fun e => Ex.rec (motive := fun _ => Env → Nat → Heap → Bool)
  (fun env' nx' H' => oc (Nat.beq nx' nx) (oc (allB (fun q => ob (look env' q.1) fun x => eqV x q.2) envw) (allB (fun q => ob (look H' q.1) fun o => ob (look Hw q.1) fun w => eqO o w) hs))) (fun _ _ _ _ => false) (fun _ _ _ => false) e
section
variable (P : Program) (D : Dm) (cx : Dm → CallK)
def fineA (h : LHint) (n : Nat) (es : Env) (hs : Heap) (il nl : List Int) : Bool :=
  oc (ge0 D h.kc h.kl) (oc (ge0 D (topI - h.kc) (negL h.kl)) (oc (allB (fun q => lowV (len D.bs) q.2) es) (oc (allB (fun q => lowO (len D.bs) q.2) hs) (oc (Nat.ble (len il) (len D.bs)) (oc (Nat.ble (len nl) (len D.bs))
    (oc (Nat.ble (len h.kl) (len D.bs)) (oc (allB (fun f => Nat.ble (len f.2) (len D.bs)) D.fs) (someB (look hs n)))))))))
def mainA (h : LHint) (body : Code) (env : Env) (nx : Nat) (H : Heap) (nr : List Nat) (n : Nat) (l : List MV) (now : MV) (yes : Env → Heap → Bool) : Bool :=
  ob (pickE env h.slots) fun es => ob (pickH H nr) fun hs => ob (look env h.cnt) fun iv => sumK iv fun ic il => sumK now fun nc nl => oc (fineA D h n es hs il nl)
    (ob (put [shV nc nl (len D.bs)] h.ci l) fun lg => ob (put [shV (nc + 1) nl (len D.bs)] h.ci l) fun lw => ob (put [mk .i64 (nc + h.kc) (addL nl h.kl)] h.ci l) fun le =>
      oc (codeF P (dmX D h.kc h.kl) (cx (dmX D h.kc h.kl)) body ((h.cnt,shV ic il (len D.bs)) :: es) nx ((n,.cells lg) :: hs) (chkA ((h.cnt,shV (ic + 1) il (len D.bs)) :: es) nx hs ((n,.cells lw) :: hs)))
        (fV (mk .i64 (ic + h.kc) (addL il h.kl)) fun iv' => yes ((h.cnt,iv') :: es) ((n,.cells le) :: H)))
def accA (h : LHint) (body : Code) (env : Env) (nx : Nat) (H : Heap) (yes : Env → Heap → Bool) (no : Bool) : Bool :=
  Option.rec (motive := fun _ => Bool) no (fun pv => Option.rec (motive := fun _ => Bool) no (fun n => Option.rec (motive := fun _ => Bool) no (fun o => MO.rec (motive := fun _ => Bool)
    (fun l => Option.rec (motive := fun _ => Bool) no (fun now => ow (eqV h.start now) (ob (findN [pv] H h.src [] 0) fun nr => mainA P D cx h body env nx H nr n l now yes) no) (nth l h.ci)) (fun _ => no) no o) (look H n)) (nameV pv)) (look env h.p)
def tryA (hs : List LHint) (body : Code) (env : Env) (nx : Nat) (H : Heap) (yes : Env → Heap → Bool) (no : Bool) : Bool :=
  List.rec (motive := fun _ => Bool) no (fun h _ ih => ow (Nat.beq (firstR body) h.reg) (accA P D cx h body env nx H yes ih) ih) hs
def mLoopAN (hs : List LHint) (body : Code) (b : CoF) (n : Nat) : CoF := Nat.rec (motive := fun _ => CoF) (fun _ _ _ _ => false) (fun _ ih env nx H k => tryA P D cx hs body env nx H (fun env' H' => b env' nx H' (seqK ih k)) (b env nx H (seqK ih k))) n
def codeA (call : CallK) (hs : List LHint) (c : Code) : CoF := Code.rec (motive := fun _ => CoF) mSkip (fun _ ops d => Bool.rec (motive := fun _ => CoF) (opsF P D call ops ops.toList) (drawF P D call ops) d) (fun _ _ a b => mSeq a b) (fun c _ _ t e => mCond c t e) (fun id _ b => mBlock id b)
  (fun body b => mLoopAN P D cx hs body b rounds) (fun _ _ _ _ _ _ => mNo) mExit (fun _ _ => mNo) (fun _ => mNo) (fun _ => mNo) mRet (fun _ => mNo) c
abbrev LHs := List (Nat × List LHint)
def lhOf (ls : LHs) (g : Nat) : List LHint := Option.rec (motive := fun _ => List LHint) [] (fun l => l) (look ls g)
def stepA (call : CallK) (ls : LHs) : CallK := fun g args nx H k => List.rec (motive := fun _ => Bool) (stepF P D call g args nx H k)
  (fun _ _ _ => ob (tfun P g) fun r => oc (Nat.ble (len args) r.1) (codeA P D cx call (lhOf ls g) r.2.1 (argE args 0) nx H (finK P r.2.2 k))) (lhOf ls g)
end
def runZ (P : Program) (D : Dm) (fs : List PFact) (rs rx : TRs) (ls : LHs) (gs : List Nat) (n : Nat) : CallK := Nat.rec (motive := fun _ => CallK) (fun _ _ _ _ _ => false) (fun _ ih => pfactsW fs (tsW D rs (gcW gs (stepA P D (fun Dx => runY P Dx [] rx [] 100) ih ls)))) n
def truleZ (P : Program) (D : Dm) (fs : List PFact) (rs rx : TRs) (ls : LHs) (gs : List Nat) (n : Nat) (r : TRule) : Bool := oc (fineT r) (runZ P D fs rs rx ls gs n r.g r.args r.m r.need (keptT r))
end
section
variable {ρ : Nat → Int}{P : Program}{D : Dm}
def atX (ρ : Nat → Int) (v : Nat) (j : Int) : Nat → Int := fun i => if i = v then j else ρ i
theorem dot_same {ρ ρ' : Nat → Int} : ∀ (l : List Int) (i : Nat),(∀ q,i ≤ q → q < i + l.length → ρ' q = ρ q) → dot ρ' i l = dot ρ i l
  | [],i,h => rfl
  | a :: l,i,h => by
    simp only [dot]
    rw [h i (Nat.le_refl _) (by simp),dot_same l (i + 1) fun q h1 h2 => h q (by omega) (by simp; omega)]
theorem dot_unit {ρ : Nat → Int} : ∀ (v i : Nat),dot ρ i (unitL v) = ρ (i + v)
  | 0,i => by show 1 * ρ i + 0 = _; simp
  | v + 1,i => by
    show 0 * ρ i + dot ρ (i + 1) (unitL v) = _
    rw [dot_unit v (i + 1),show i + 1 + v = i + (v + 1) by omega]; omega
theorem dot_at {v : Nat}{j : Int}{l : List Int} (h : Nat.ble (len l) v = true) : dot (atX ρ v j) 0 l = dot ρ 0 l := by
  have h := Nat.le_of_ble_eq_true h
  rw [len_eq] at h
  refine dot_same l 0 fun q _ h2 => ?_
  unfold atX
  rw [if_neg (by omega)]
theorem dot_sh {v : Nat}{j c : Int}{l : List Int} (h : Nat.ble (len l) v = true) : c + dot (atX ρ v j) 0 (addL l (unitL v)) = c + dot ρ 0 l + j := by
  rw [dot_add,dot_at h,dot_unit]
  have : atX ρ v j (0 + v) = j := by unfold atX; rw [if_pos (by omega)]
  rw [this]; omega
theorem low_alike {v : Nat}{ρ' : Nat → Int} (hs : ∀ l : List Int,Nat.ble (len l) v = true → dot ρ' 0 l = dot ρ 0 l) {φ : Nat → Ph}{nx : Nat} (a : MV) : lowV v a = true → Alike ρ' φ nx ρ a a := by
  have row : ∀ {l : List MV},(∀ x ∈ l,Alike ρ' φ nx ρ x x) → ∀ (i : Nat) c d,l[i]? = some c → l[i]? = some d → Alike ρ' φ nx ρ c d := fun h i c d hc hd => by rw [hc] at hd; cases hd; exact h c (List.mem_of_getElem? hc)
  refine @MV.rec (fun a => lowV v a = true → Alike ρ' φ nx ρ a a) (fun l => lowV v (.agg l) = true → ∀ x ∈ l,Alike ρ' φ nx ρ x x) ?_ ?_ ?_ ?_ ?_ ?_ ?_ ?_ ?_ ?_ ?_ ?_ ?_ a
  · intro x _ u; exact ⟨fun h => by cases h; exact .v x,fun h => by cases h; exact .v x⟩
  · intro x _ u; exact ⟨fun h => by cases h; exact .b x,fun h => by cases h; exact .b x⟩
  · intro k c _ u; exact ⟨fun h => by cases h; exact .n k c,fun h => by cases h; exact .n k c⟩
  · intro k c l h u; rw [int_rel,int_rel,hs l h]
  · intro n o _ u; exact ⟨fun h => by cases h with|ptr h => exact .ptr h,fun h => by cases h with|ptr h => exact .ptr h⟩
  · intro sz n o l c _ u; exact ⟨fun h => by cases h with|sl h1 h2 h3 h4 h5 => exact .sl h1 h2 h3 h4 h5,fun h => by cases h with|sl h1 h2 h3 h4 h5 => exact .sl h1 h2 h3 h4 h5⟩
  · intro cs ih h; exact agg_alike rfl (row (ih h))
  · intro cs ih h; exact tup_alike rfl (row (ih h))
  · intro f as0 bs i1 i2 h
    obtain ⟨h1,h2⟩ := oc_inv (show oc (lowV v (.agg as0)) (lowV v (.agg bs)) = true from h)
    exact clo_alike rfl (row (i1 h1)) rfl (row (i2 h2))
  · intro n _ u; exact ⟨fun h => by cases h with|mp h => exact .mp h,fun h => by cases h with|mp h => exact .mp h⟩
  · intro t x ih h; exact ifc_alike (ih h)
  · intro _ x hx; cases hx
  · intro x t i1 i2 h y hy
    obtain ⟨h1,h2⟩ := oc_inv (show oc (lowV v x) (lowV v (.agg t)) = true from h)
    rcases List.mem_cons.1 hy with rfl|hy
    · exact i1 h1
    · exact i2 h2 y hy
theorem lowO_alike {v : Nat}{ρ' : Nat → Int} (hs : ∀ l : List Int,Nat.ble (len l) v = true → dot ρ' 0 l = dot ρ 0 l) {φ : Nat → Ph}{nx : Nat}{o : MO} (h : lowO v o = true) : AlikeO ρ' φ nx ρ o o := by
  cases o with
  | cells l => exact cells_alike rfl fun i c d hc hd => by rw [hc] at hd; cases hd; exact low_alike hs c (allB_inv (show allB (lowV v) l = true from h) c (List.mem_of_getElem? hc))
  | map es =>
    refine map_alike rfl fun i c d hc hd => ?_
    rw [hc] at hd; cases hd
    obtain ⟨a,b⟩ := oc_inv (allB_inv (show allB (fun e => oc (lowV v e.1) (lowV v e.2)) es = true from h) c (List.mem_of_getElem? hc))
    exact ⟨low_alike hs _ a,low_alike hs _ b⟩
  | dead => exact ⟨Iff.rfl,fun w n => Iff.rfl⟩
theorem at_at {v : Nat}{j j' : Int} (l : List Int) (h : Nat.ble (len l) v = true) : dot (atX ρ v j) 0 l = dot (atX ρ v j') 0 l := by rw [dot_at h,dot_at h]
theorem St.alike {ρ' : Nat → Int}{c : Ctx}{nx : Nat}{env env' : Env}{H H' : Heap}{φ : Nat → Ph}{tmps : Array Value}{w : World} (h : St ρ c nx env H φ tmps w)
    (he : ∀ k x',look env' k = some x' → ∃ x,look env k = some x ∧ ∀ φ nx,Alike ρ' φ nx ρ x' x) (hH : AlikeH ρ' ρ H' H) : St ρ' c nx env' H' φ tmps w := by
  refine ⟨hH.ok.2 h.ok,fun k x' hk => ?_,by rw [hH.own φ]; exact h.ext,h.keep,h.size⟩
  obtain ⟨x,h1,h2⟩ := he k x' hk
  obtain ⟨u,u1,u2⟩ := h.env k x h1
  exact ⟨u,u1,(h2 φ nx u).2 u2⟩
theorem St.join {c : Ctx}{N : Nat}{env eS : Env}{H HS HS' Hf : Heap}{φ φ' : Nat → Ph}{tmps tmps' : Array Value}{w w' : World} (hs : St ρ c N env H φ tmps w) (hp : ∀ n o,look HS n = some o → look H n = some o)
    (h : St ρ (c.part w φ HS N) N eS HS' φ' tmps' w') (hf : ∀ n o,look Hf n = some o → look HS' n = some o ∨ (look H n = some o ∧ look HS n = none)) : St ρ c N eS Hf φ' tmps' w' := by
  have hkeep : ∀ n,n < N → φ' n = φ n := h.keep.2
  have hext : Ext w w' (Own φ HS) (Own φ' HS') := h.ext
  have same : ∀ n o,look H n = some o → look HS n = none → ObjOk ρ φ' N w' n o := by
    intro n o h1 h2
    obtain ⟨a,b⟩ := hs.ok.obj n o h1
    refine b.step hkeep (Nat.le_refl _) a fun hd => hext.blk _ (b.lt hd) ?_
    rintro ⟨q,o2,q1,q2,q3⟩
    refine hs.ok.dis q n o2 o (hp q o2 q1) h1 (fun e => ?_) q2 hd q3
    subst e; rw [h2] at q1; cases q1
  have mixed : ∀ n q o o',look HS' n = some o → look H q = some o' → look HS q = none → o ≠ .dead → o' ≠ .dead → (φ' n).blk ≠ (φ' q).blk := by
    intro n q o o' h1 h3 h4 d1 d2 e
    have hq := hs.ok.obj q o' h3
    rw [hkeep q hq.1] at e
    have hlt := hq.2.lt d2
    obtain ⟨x,ox,x1,x2,x3⟩ := hext.own _ hlt ⟨n,o,h1,d1,e⟩
    refine hs.ok.dis x q ox o' (hp x ox x1) h3 (fun e => ?_) x2 d2 x3
    subst e; rw [h4] at x1; cases x1
  have hE : Ext w w' (Own φ H) (Own φ' Hf) := by
    refine ⟨hext.os,hext.tape,hext.output,hext.size,fun b hb hO => hext.blk b hb ?_, ?_⟩
    · rintro ⟨q,o,q1,q2,q3⟩; exact hO ⟨q,o,hp q o q1,q2,q3⟩
    · rintro b hb ⟨n,o,n1,n2,n3⟩
      rcases hf n o n1 with a1|⟨a1,b1⟩
      · obtain ⟨x,ox,x1,x2,x3⟩ := hext.own b hb ⟨n,o,a1,n2,n3⟩
        exact ⟨x,ox,hp x ox x1,x2,x3⟩
      · exact ⟨n,o,a1,n2,by rw [← hkeep n (hs.ok.obj n o a1).1]; exact n3⟩
  refine ⟨⟨fun n o hl => ?_,fun n q o o' h1 h2 hne d1 d2 => ?_⟩,h.env,hs.ext.trans hE,⟨hs.keep.1,fun n hn => by rw [hkeep n (Nat.lt_of_lt_of_le hn hs.keep.1)]; exact hs.keep.2 n hn⟩,h.size⟩
  · rcases hf n o hl with a|⟨a,b⟩
    · exact h.ok.obj n o a
    · exact ⟨(hs.ok.obj n o a).1,same n o a b⟩
  · rcases hf n o h1 with a1|⟨a1,b1⟩ <;> rcases hf q o' h2 with a2|⟨a2,b2⟩
    · exact h.ok.dis n q o o' a1 a2 hne d1 d2
    · exact mixed n q o o' a1 a2 b2 d1 d2
    · exact fun e => mixed q n o' o a2 a1 b1 d2 d1 e.symm
    · rw [hkeep n (hs.ok.obj n o a1).1,hkeep q (hs.ok.obj q o' a2).1]; exact hs.ok.dis n q o o' a1 a2 hne d1 d2
theorem pickE_ok {env : Env} : ∀ {l : List Nat}{es : Env},pickE env l = some es → ∀ k x,look es k = some x → look env k = some x
  | [],es,h,k,x,hk => by cases (show some [] = some es from h); cases hk
  | s :: l,es,h,k,x,hk => by
    obtain ⟨v,h1,h⟩ := bo_some (show bo (look env s) _ = some es from h)
    obtain ⟨r,h2,h⟩ := bo_some h
    cases h
    rw [look_cons] at hk
    by_cases e : s = k
    · subst e; rw [if_pos rfl] at hk; cases hk; exact h1
    · rw [if_neg e] at hk; exact pickE_ok h2 k x hk
theorem pickH_ok {H : Heap} : ∀ {l : List Nat}{hs : Heap},pickH H l = some hs → ∀ k x,look hs k = some x → look H k = some x
  | [],es,h,k,x,hk => by cases (show some [] = some es from h); cases hk
  | s :: l,es,h,k,x,hk => by
    obtain ⟨v,h1,h⟩ := bo_some (show bo (look H s) _ = some es from h)
    obtain ⟨r,h2,h⟩ := bo_some h
    cases h
    rw [look_cons] at hk
    by_cases e : s = k
    · subst e; rw [if_pos rfl] at hk; cases hk; exact h1
    · rw [if_neg e] at hk; exact pickH_ok h2 k x hk
theorem sumK_inv {v : MV}{κ : Int → List Int → Bool} (h : sumK v κ = true) : ∃ c l,κ c l = true ∧ ∀ (ρ : Nat → Int) φ nx u,Rel ρ φ nx v u ↔ u = .int .i64 (c + dot ρ 0 l) := by
  rcases onI_inv (show onI v _ _ _ = true from h) with ⟨k,c,rfl,h⟩|⟨k,c,l,rfl,h⟩|⟨_,_,h⟩
  · obtain ⟨h1,h2⟩ := oc_inv h
    refine ⟨c,[],h2,fun ρ φ nx u => ?_⟩
    rw [num_rel,keq_inv h1]; simp [dot]
  · obtain ⟨h1,h2⟩ := oc_inv h
    refine ⟨c,l,h2,fun ρ φ nx u => ?_⟩
    rw [int_rel,keq_inv h1]
  · cases h
def JumpOk (ρ : Nat → Int) (P : Program) (c : Ctx) (body : Code) (nx : Nat) (env : Env) (H : Heap) (env' : Env) (H' : Heap) : Prop :=
  ∀ φ tmps w,St ρ c nx env H φ tmps w → ∀ (b : Frame) (k : List Item) (cs : List Frame),∃ φ' tmps' w',St ρ c nx env' H' φ' tmps' w' ∧ Steps P (lone (b.at (act tmps) (.code body :: .inLoop body :: k)) cs w) (lone (b.at (act tmps') (.code body :: .inLoop body :: k)) cs w')
theorem put1_get {l r : List MV}{x : MV}{i : Nat} (h : put [x] i l = some r) (j : Nat) : r[j]? = if j = i then some x else l[j]? := by
  rw [put_get h]
  have hlen := (put_some h).2
  simp only [List.length_cons,List.length_nil,Nat.zero_add] at hlen ⊢
  by_cases e : j = i
  · subst e; simp
  · rw [if_neg e]
    by_cases e1 : j < i
    · rw [if_pos e1]
    · rw [if_neg e1,if_neg (by omega)]
theorem put_alike {ρ1 ρ2 : Nat → Int}{φ : Nat → Ph}{nx : Nat}{l r1 r2 : List MV}{x1 x2 : MV}{i : Nat} (h1 : put [x1] i l = some r1) (h2 : put [x2] i l = some r2) (hl : ∀ x ∈ l,Alike ρ1 φ nx ρ2 x x) (hx : Alike ρ1 φ nx ρ2 x1 x2) :
    AlikeO ρ1 φ nx ρ2 (.cells r1) (.cells r2) := by
  refine cells_alike (by rw [put_length h1,put_length h2]) fun j c d hc hd => ?_
  rw [put1_get h1] at hc
  rw [put1_get h2] at hd
  by_cases e : j = i
  · rw [if_pos e] at hc hd; cases hc; cases hd; exact hx
  · rw [if_neg e] at hc hd; rw [hc] at hd; cases hd; exact hl c (List.mem_of_getElem? hc)
end
section
variable {ρ : Nat → Int}{P : Program}{D : Dm}{cx : Dm → CallK}
theorem put_self {ρ1 ρ2 : Nat → Int}{φ : Nat → Ph}{nx : Nat}{l r1 : List MV}{x1 x2 : MV}{i : Nat} (h1 : put [x1] i l = some r1) (h2 : l[i]? = some x2) (hl : ∀ x ∈ l,Alike ρ1 φ nx ρ2 x x) (hx : Alike ρ1 φ nx ρ2 x1 x2) :
    AlikeO ρ1 φ nx ρ2 (.cells r1) (.cells l) := by
  refine cells_alike (put_length h1) fun j c d hc hd => ?_
  rw [put1_get h1] at hc
  by_cases e : j = i
  · subst e; rw [if_pos rfl] at hc; cases hc; rw [h2] at hd; cases hd; exact hx
  · rw [if_neg e] at hc; rw [hc] at hd; cases hd; exact hl c (List.mem_of_getElem? hc)
theorem dmX_ok (hD : OkD D ρ) {kc : Int}{kl : List Int} (h7 : Nat.ble (len kl) (len D.bs) = true) (h8 : allB (fun f => Nat.ble (len f.2) (len D.bs)) D.fs = true) (h2 : kc + dot ρ 0 kl ≤ topI) {j : Int} (j0 : 0 ≤ j) (j1 : j < kc + dot ρ 0 kl) :
    OkD (dmX D kc kl) (atX ρ (len D.bs) j) := by
  refine ⟨fun i b hb => ?_,fun f hf => ?_⟩
  · have hb : (D.bs ++ [(0,topI)])[i]? = some b := hb
    by_cases hi : i < D.bs.length
    · rw [List.getElem?_append_left hi] at hb
      have e : atX ρ (len D.bs) j i = ρ i := by unfold atX; rw [if_neg (by rw [len_eq]; omega)]
      rw [e]; exact hD.1 i b hb
    · rw [List.getElem?_append_right (by omega)] at hb
      have hi2 : i = D.bs.length := by
        have := (List.getElem?_eq_some_iff.1 hb).1
        simp at this; omega
      subst hi2
      simp at hb; subst hb
      have e : atX ρ (len D.bs) j D.bs.length = j := by unfold atX; rw [if_pos (by rw [len_eq])]
      rw [e]; exact ⟨j0,by show j ≤ topI; omega⟩
  · have hf : f ∈ D.fs ++ [(kc - 1,addL kl (negL (unitL (len D.bs))))] := hf
    rcases List.mem_append.1 hf with hf|hf
    · have := hD.2 f hf
      rw [dot_at (allB_inv h8 f hf)]; exact this
    · simp at hf; subst hf
      show 0 ≤ kc - 1 + dot (atX ρ (len D.bs) j) 0 (addL kl (negL (unitL (len D.bs))))
      rw [dot_add,dot_neg,dot_at h7,dot_unit]
      have : atX ρ (len D.bs) j (0 + len D.bs) = j := by unfold atX; rw [if_pos (by omega)]
      rw [this]; omega
theorem mainA_ok (hD : OkD D ρ) (hcx : ∀ ρ' Dx,OkD Dx ρ' → CallOk ρ' P (cx Dx)) (hdr : ∀ ρ' Dx,OkD Dx ρ' → DrawOk ρ' P Dx) {h : LHint}{body : Code}{env : Env}{nx : Nat}{H : Heap}{nr : List Nat}{n : Nat}{l : List MV}{now : MV}{yes : Env → Heap → Bool}
    (hn : look H n = some (.cells l)) (hnow : l[h.ci]? = some now) (hm : mainA P D cx h body env nx H nr n l now yes = true) :
    ∃ env' H',yes env' H' = true ∧ Suf H H' ∧ ∀ c,roomC c.nt body = true → JumpOk ρ P c body nx env H env' H' := by
  obtain ⟨es,e1,hm⟩ := ob_inv hm
  obtain ⟨hs,e2,hm⟩ := ob_inv hm
  obtain ⟨iv,e3,hm⟩ := ob_inv hm
  obtain ⟨ic,il,hm,hiv⟩ := sumK_inv hm
  obtain ⟨nc,nl,hm,hnv⟩ := sumK_inv hm
  obtain ⟨hfin,hm⟩ := oc_inv hm
  obtain ⟨lg,g1,hm⟩ := ob_inv hm
  obtain ⟨lw,g2,hm⟩ := ob_inv hm
  obtain ⟨le,g3,hm⟩ := ob_inv hm
  obtain ⟨hrun,hyes⟩ := oc_inv hm
  rw [fV_eq] at hyes
  obtain ⟨f1,hfin⟩ := oc_inv hfin
  obtain ⟨f2,hfin⟩ := oc_inv hfin
  obtain ⟨f3,hfin⟩ := oc_inv hfin
  obtain ⟨f4,hfin⟩ := oc_inv hfin
  obtain ⟨f5,hfin⟩ := oc_inv hfin
  obtain ⟨f6,hfin⟩ := oc_inv hfin
  obtain ⟨f7,hfin⟩ := oc_inv hfin
  obtain ⟨f8,f9⟩ := oc_inv hfin
  obtain ⟨o9,f9⟩ := someB_inv f9
  have e9 := pickH_ok e2 n o9 f9
  rw [hn] at e9; cases e9
  have hK0 := ge0_ok hD f1
  have hK1 : h.kc + dot ρ 0 h.kl ≤ topI := by
    have := ge0_ok hD f2
    rw [dot_neg] at this; omega
  have lowl : ∀ {ρ' ρ'' : Nat → Int}{φ : Nat → Ph}{nx : Nat},(∀ l : List Int,Nat.ble (len l) (len D.bs) = true → dot ρ' 0 l = dot ρ'' 0 l) → ∀ x ∈ l,Alike ρ' φ nx ρ'' x x := fun hh x hx =>
    low_alike hh x (allB_inv (show allB (lowV (len D.bs)) l = true from allB_inv f4 _ (look_mem f9)) x hx)
  have lows : ∀ {ρ' ρ'' : Nat → Int}{φ : Nat → Ph}{nx : Nat}{m : Nat}{o : MO},(∀ l : List Int,Nat.ble (len l) (len D.bs) = true → dot ρ' 0 l = dot ρ'' 0 l) → look hs m = some o → AlikeO ρ' φ nx ρ'' o o := fun hh hm => lowO_alike hh (allB_inv f4 _ (look_mem hm))
  have lowe : ∀ {ρ' ρ'' : Nat → Int}{φ : Nat → Ph}{nx : Nat}{k : Nat}{x : MV},(∀ l : List Int,Nat.ble (len l) (len D.bs) = true → dot ρ' 0 l = dot ρ'' 0 l) → look es k = some x → Alike ρ' φ nx ρ'' x x := fun hh hm => low_alike hh _ (allB_inv f3 _ (look_mem hm))
  have atat : ∀ (j j' : Int) (l : List Int),Nat.ble (len l) (len D.bs) = true → dot (atX ρ (len D.bs) j) 0 l = dot (atX ρ (len D.bs) j') 0 l := fun j j' l hl => at_at l hl
  have atl : ∀ (j : Int) (l : List Int),Nat.ble (len l) (len D.bs) = true → dot (atX ρ (len D.bs) j) 0 l = dot ρ 0 l := fun j l hl => dot_at hl
  have round : ∀ (j : Int),0 ≤ j → j < h.kc + dot ρ 0 h.kl → ∀ c',roomC c'.nt body = true → ∀ φ tmps w,St (atX ρ (len D.bs) j) c' nx ((h.cnt,shV ic il (len D.bs)) :: es) ((n,.cells lg) :: hs) φ tmps w → ∀ (b : Frame) (k : List Item) (cs : List Frame),
      ∃ φ' tmps' w',St (atX ρ (len D.bs) (j + 1)) c' nx ((h.cnt,shV ic il (len D.bs)) :: es) ((n,.cells lg) :: hs) φ' tmps' w' ∧ Steps P (lone (b.at (act tmps) (.code body :: .inLoop body :: k)) cs w) (lone (b.at (act tmps') (.code body :: .inLoop body :: k)) cs w') := by
    intro j j0 j1 c' hr φ tmps w hS b k cs
    have hDx := dmX_ok hD f7 f8 hK1 j0 j1
    obtain ⟨x,env',nx',H',k1,_,k3⟩ := codeF_ok hDx (hdr _ _ hDx) (hcx _ _ hDx) body _ _ _ _ hrun
    cases x with
    | exit i => cases (show false = true from k1)
    | ret => cases (show false = true from k1)
    | normal =>
      obtain ⟨q1,q⟩ := oc_inv k1
      obtain ⟨q2,q3⟩ := oc_inv q
      have q1 := Nat.eq_of_beq_eq_true q1
      subst q1
      obtain ⟨e,a1,w1,⟨rfl,hd,φ',hs'⟩,harr⟩ := k3 c' hr φ tmps w hS b (.inLoop body :: k) cs
      have hsub : St (atX ρ (len D.bs) j) c' nx' env' (selG H' (hs.map (·.1))) φ' a1.tmps w1 := hs'.sub (fun m o hm _ => by
        rw [look_selG] at hm
        split at hm
        · exact hm
        · cases hm) fun m hm => by
        rw [look_selG] at hm
        split at hm
        · exact (hs'.ok.obj m _ hm).1
        · cases hm
      have hobj : ∀ m o0,look hs m = some o0 → ∃ o o',look ((n,.cells lg) :: hs) m = some o ∧ look H' m = some o' ∧ ∀ φ nx,AlikeO (atX ρ (len D.bs) (j + 1)) φ nx (atX ρ (len D.bs) j) o o' := by
        intro m o0 hm
        obtain ⟨o',a1,b1⟩ := ob_inv (allB_inv q3 _ (look_mem hm))
        obtain ⟨ww,b2,b3⟩ := ob_inv b1
        rw [look_cons] at b2
        by_cases e : n = m
        · rw [if_pos e] at b2; cases b2
          refine ⟨_,o',by rw [look_cons,if_pos e],a1,fun φ nx => (put_alike g1 g2 (lowl (atat _ _)) fun u => ?_).trans (eqO_ok b3).symm⟩
          rw [shV,shV,int_rel,int_rel,dot_sh f6,dot_sh f6,show nc + dot ρ 0 nl + (j + 1) = nc + 1 + dot ρ 0 nl + j by omega]
        · rw [if_neg e,hm] at b2; cases b2
          exact ⟨o0,o',by rw [look_cons,if_neg e]; exact hm,a1,fun φ nx => (lows (atat _ _) hm).trans (eqO_ok b3).symm⟩
      have hkey : ∀ m o,look ((n,.cells lg) :: hs) m = some o → ∃ o0,look hs m = some o0 := by
        intro m o hm
        rw [look_cons] at hm
        by_cases e : n = m
        · subst e; exact ⟨_,f9⟩
        · rw [if_neg e] at hm; exact ⟨o,hm⟩
      refine ⟨φ',a1.tmps,w1,hsub.alike (fun kk x' hk => ?_) ⟨fun m o hm => ?_,fun m o' hm => ?_⟩, ?_⟩
      · rw [look_cons] at hk
        by_cases e : h.cnt = kk
        · rw [if_pos e] at hk; cases hk
          obtain ⟨x,a,b2⟩ := ob_inv (allB_inv q2 (h.cnt,shV (ic + 1) il (len D.bs)) List.mem_cons_self)
          refine ⟨x,by rw [← e]; exact a,fun φ nx => Alike.trans (fun u => ?_) (eqV_ok _ _ b2).symm⟩
          rw [shV,shV,int_rel,int_rel,dot_sh f5,dot_sh f5,show ic + dot ρ 0 il + (j + 1) = ic + 1 + dot ρ 0 il + j by omega]
        · rw [if_neg e] at hk
          obtain ⟨x,a,b2⟩ := ob_inv (allB_inv q2 (kk,x') (List.mem_cons_of_mem _ (look_mem hk)))
          exact ⟨x,a,fun φ nx => Alike.trans (lowe (atat _ _) hk) (eqV_ok _ _ b2).symm⟩
      · obtain ⟨o0,hm0⟩ := hkey m o hm
        obtain ⟨o1,o',a,b2,d⟩ := hobj m o0 hm0
        rw [hm] at a; cases a
        exact ⟨o',by rw [look_selG,if_pos (mem_keys.2 ⟨o0,hm0⟩)]; exact b2,d⟩
      · rw [look_selG] at hm
        split at hm
        · rename_i hmem
          obtain ⟨o0,hm0⟩ := mem_keys.1 hmem
          obtain ⟨o1,o2,a,b2,d⟩ := hobj m o0 hm0
          rw [hm] at b2; cases b2
          exact ⟨o1,a,d⟩
        · cases hm
      · rw [← actE hd]
        exact Steps.trans harr (.one step_inLoop)
  have rounds : ∀ (m : Nat),(m : Int) ≤ h.kc + dot ρ 0 h.kl → ∀ c',roomC c'.nt body = true → ∀ φ tmps w,St (atX ρ (len D.bs) 0) c' nx ((h.cnt,shV ic il (len D.bs)) :: es) ((n,.cells lg) :: hs) φ tmps w → ∀ (b : Frame) (k : List Item) (cs : List Frame),
      ∃ φ' tmps' w',St (atX ρ (len D.bs) m) c' nx ((h.cnt,shV ic il (len D.bs)) :: es) ((n,.cells lg) :: hs) φ' tmps' w' ∧ Steps P (lone (b.at (act tmps) (.code body :: .inLoop body :: k)) cs w) (lone (b.at (act tmps') (.code body :: .inLoop body :: k)) cs w') := by
    intro m
    induction m with
    | zero => intro _ c' hr φ tmps w hS b k cs; exact ⟨φ,tmps,w,hS,.refl P _⟩
    | succ m ih =>
      intro hm c' hr φ tmps w hS b k cs
      obtain ⟨φ1,t1,w1,s1,p1⟩ := ih (by omega) c' hr φ tmps w hS b k cs
      obtain ⟨φ2,t2,w2,s2,p2⟩ := round m (by omega) (by omega) c' hr φ1 t1 w1 s1 b k cs
      exact ⟨φ2,t2,w2,by rw [show ((m + 1 : Nat) : Int) = (m : Int) + 1 by omega]; exact s2,p1.trans p2⟩
  refine ⟨_,_,hyes,⟨[_],rfl⟩,fun c hr φ tmps w hst b k cs => ?_⟩
  have hes : ∀ kk x,look ((h.cnt,iv) :: es) kk = some x → look env kk = some x := fun kk x hk => by
    rw [look_cons] at hk
    by_cases e : h.cnt = kk
    · rw [if_pos e] at hk; cases hk; rw [← e]; exact e3
    · rw [if_neg e] at hk; exact pickE_ok e1 kk x hk
  have p0 : St ρ (c.part w φ hs nx) nx ((h.cnt,iv) :: es) hs φ tmps w := hst.part (pickH_ok e2) (fun kk x hk => by
    obtain ⟨u,_,u2⟩ := hst.env kk x (hes kk x hk)
    exact ⟨hes kk x hk,u2.has⟩) fun m o hm => by
    obtain ⟨a,b⟩ := hst.ok.obj m o (pickH_ok e2 m o hm)
    exact ⟨a,b.has⟩
  have s0 : St (atX ρ (len D.bs) 0) (c.part w φ hs nx) nx ((h.cnt,shV ic il (len D.bs)) :: es) ((n,.cells lg) :: hs) φ tmps w := by
    refine p0.alike (fun kk x' hk => ?_) ⟨fun m o hm => ?_,fun m o hm => ?_⟩
    · rw [look_cons] at hk
      by_cases e : h.cnt = kk
      · rw [if_pos e] at hk; cases hk
        refine ⟨iv,by rw [look_cons,if_pos e],fun φ nx u => ?_⟩
        rw [hiv,shV,int_rel,dot_sh f5,Int.add_zero]
      · rw [if_neg e] at hk
        exact ⟨x',by rw [look_cons,if_neg e]; exact hk,fun φ nx => lowe (atl _) hk⟩
    · rw [look_cons] at hm
      by_cases e : n = m
      · rw [if_pos e] at hm; cases hm
        refine ⟨_,by rw [← e]; exact f9,fun φ nx => put_self g1 hnow (lowl (atl _)) fun u => ?_⟩
        rw [hnv,shV,int_rel,dot_sh f6,Int.add_zero]
      · rw [if_neg e] at hm; exact ⟨o,hm,fun φ nx => lows (atl _) hm⟩
    · by_cases e : n = m
      · subst e
        rw [f9] at hm; cases hm
        refine ⟨_,by rw [look_cons,if_pos rfl],fun φ nx => put_self g1 hnow (lowl (atl _)) fun u => ?_⟩
        rw [hnv,shV,int_rel,dot_sh f6,Int.add_zero]
      · exact ⟨o,by rw [look_cons,if_neg e]; exact hm,fun φ nx => lows (atl _) hm⟩
  obtain ⟨φ',tmps',w',s1,p1⟩ := rounds (h.kc + dot ρ 0 h.kl).toNat (by omega) (c.part w φ hs nx) hr φ tmps w s0 b k cs
  rw [show (((h.kc + dot ρ 0 h.kl).toNat : Nat) : Int) = h.kc + dot ρ 0 h.kl by omega] at s1
  have la : ∀ (l : List Int),Nat.ble (len l) (len D.bs) = true → dot ρ 0 l = dot (atX ρ (len D.bs) (h.kc + dot ρ 0 h.kl)) 0 l := fun l hl => (dot_at hl).symm
  have s2 : St ρ (c.part w φ hs nx) nx ((h.cnt,mk .i64 (ic + h.kc) (addL il h.kl)) :: es) ((n,.cells le) :: hs) φ' tmps' w' := by
    refine s1.alike (fun kk x' hk => ?_) ⟨fun m o hm => ?_,fun m o hm => ?_⟩
    · rw [look_cons] at hk
      by_cases e : h.cnt = kk
      · rw [if_pos e] at hk; cases hk
        refine ⟨shV ic il (len D.bs),by rw [look_cons,if_pos e],fun φ nx u => ?_⟩
        rw [mk_iff,shV,int_rel,dot_sh f5,dot_add,show ic + h.kc + (dot ρ 0 il + dot ρ 0 h.kl) = ic + dot ρ 0 il + (h.kc + dot ρ 0 h.kl) by omega]
      · rw [if_neg e] at hk
        exact ⟨x',by rw [look_cons,if_neg e]; exact hk,fun φ nx => lowe la hk⟩
    · rw [look_cons] at hm
      by_cases e : n = m
      · rw [if_pos e] at hm; cases hm
        refine ⟨_,by rw [look_cons,if_pos e],fun φ nx => put_alike g3 g1 (lowl la) fun u => ?_⟩
        rw [mk_iff,shV,int_rel,dot_sh f6,dot_add,show nc + h.kc + (dot ρ 0 nl + dot ρ 0 h.kl) = nc + dot ρ 0 nl + (h.kc + dot ρ 0 h.kl) by omega]
      · rw [if_neg e] at hm; exact ⟨o,by rw [look_cons,if_neg e]; exact hm,fun φ nx => lows la hm⟩
    · rw [look_cons] at hm
      by_cases e : n = m
      · rw [if_pos e] at hm; cases hm
        refine ⟨_,by rw [look_cons,if_pos e],fun φ nx => put_alike g3 g1 (lowl la) fun u => ?_⟩
        rw [mk_iff,shV,int_rel,dot_sh f6,dot_add,show nc + h.kc + (dot ρ 0 nl + dot ρ 0 h.kl) = nc + dot ρ 0 nl + (h.kc + dot ρ 0 h.kl) by omega]
      · rw [if_neg e] at hm; exact ⟨o,by rw [look_cons,if_neg e]; exact hm,fun φ nx => lows la hm⟩
  refine ⟨φ',tmps',w',hst.join (pickH_ok e2) s2 fun m o hm => ?_,p1⟩
  rw [look_cons] at hm
  by_cases e : n = m
  · rw [if_pos e] at hm; exact .inl (by rw [look_cons,if_pos e]; exact hm)
  · rw [if_neg e] at hm
    cases hq : look hs m with
    | none => exact .inr ⟨hm,rfl⟩
    | some o1 =>
      have := pickH_ok e2 m o1 hq
      rw [hm] at this; cases this
      exact .inl (by rw [look_cons,if_neg e]; exact hq)
theorem accA_ok (hD : OkD D ρ) (hcx : ∀ ρ' Dx,OkD Dx ρ' → CallOk ρ' P (cx Dx)) (hdx : ∀ ρ' Dx,OkD Dx ρ' → DrawOk ρ' P Dx) {h : LHint}{body : Code}{env : Env}{nx : Nat}{H : Heap}{yes : Env → Heap → Bool}{no : Bool} (hm : accA P D cx h body env nx H yes no = true) :
    no = true ∨ ∃ env' H',yes env' H' = true ∧ Suf H H' ∧ ∀ c,roomC c.nt body = true → JumpOk ρ P c body nx env H env' H' := by
  unfold accA at hm
  cases h1 : look env h.p with
  | none => rw [h1] at hm; exact .inl hm
  | some pv =>
    rw [h1] at hm
    dsimp only at hm
    cases h2 : nameV pv with
    | none => rw [h2] at hm; exact .inl hm
    | some n =>
      rw [h2] at hm
      dsimp only at hm
      cases h3 : look H n with
      | none => rw [h3] at hm; exact .inl hm
      | some o =>
        rw [h3] at hm
        cases o with
        | map es => exact .inl hm
        | dead => exact .inl hm
        | cells l =>
          dsimp only at hm
          cases h4 : nth l h.ci with
          | none => rw [h4] at hm; exact .inl hm
          | some now =>
            rw [h4] at hm
            rcases ow_inv (show ow (eqV h.start now) (ob (findN [pv] H h.src [] 0) fun nr => mainA P D cx h body env nx H nr n l now yes) no = true from hm) with ⟨_,hm⟩|⟨_,hm⟩
            · obtain ⟨nr,_,hm⟩ := ob_inv hm
              rw [nth_eq] at h4
              exact .inr (mainA_ok hD hcx hdx h3 h4 hm)
            · exact .inl hm
theorem tryA_ok (hD : OkD D ρ) (hcx : ∀ ρ' Dx,OkD Dx ρ' → CallOk ρ' P (cx Dx)) (hdx : ∀ ρ' Dx,OkD Dx ρ' → DrawOk ρ' P Dx) {body : Code}{env : Env}{nx : Nat}{H : Heap}{yes : Env → Heap → Bool}{no : Bool} : ∀ {hs : List LHint},tryA P D cx hs body env nx H yes no = true →
    no = true ∨ ∃ env' H',yes env' H' = true ∧ Suf H H' ∧ ∀ c,roomC c.nt body = true → JumpOk ρ P c body nx env H env' H'
  | [],hm => .inl hm
  | h :: hs,hm => by
    rcases ow_inv (show ow (Nat.beq (firstR body) h.reg) (accA P D cx h body env nx H yes (tryA P D cx hs body env nx H yes no)) (tryA P D cx hs body env nx H yes no) = true from hm) with ⟨_,hm⟩|⟨_,hm⟩
    · rcases accA_ok hD hcx hdx hm with hm|hm
      · exact tryA_ok hD hcx hdx hm
      · exact .inr hm
    · exact tryA_ok hD hcx hdx hm
theorem loopA_ok (hD : OkD D ρ) (hcx : ∀ ρ' Dx,OkD Dx ρ' → CallOk ρ' P (cx Dx)) (hdx : ∀ ρ' Dx,OkD Dx ρ' → DrawOk ρ' P Dx) {f : CoF}{body : Code}{hints : List LHint} (hf : CodeOk ρ P f body) : ∀ {n : Nat} {env nx H}{k : KC},mLoopAN P D cx hints body f n env nx H k = true →
    ∃ x env' nx' H',k x env' nx' H' = true ∧ Suf H H' ∧ ∀ (c : Ctx),roomC c.nt body = true → LW ρ P c body env nx H x env' nx' H'
  | 0,env,nx,H,k,h => by cases (show false = true from h)
  | n + 1,env,nx,H,k,h => by
    have core : ∀ env1 H1,f env1 nx H1 (seqK (mLoopAN P D cx hints body f n) k) = true → ∃ x env' nx' H',k x env' nx' H' = true ∧ Suf H1 H' ∧ ∀ (c : Ctx),roomC c.nt body = true → LW ρ P c body env1 nx H1 x env' nx' H' := by
      intro env0 H0 h
      obtain ⟨x,env1,nx1,H1,h1,h2,h3⟩ := hf _ _ _ _ h
      cases x with
      | normal =>
        obtain ⟨y,env2,nx2,H2,k1,k2,k3⟩ := loopA_ok hD hcx hdx hf (show mLoopAN P D cx hints body f n env1 nx1 H1 k = true from h1)
        refine ⟨y,env2,nx2,H2,k1,h2.trans k2,fun c hr φ tmps w hs b kk cs => ?_⟩
        obtain ⟨e,a1,w1,⟨rfl,hd,φ',hs'⟩,harr⟩ := h3 c hr φ tmps w hs b (.inLoop body :: kk) cs
        obtain ⟨e2,a2,w2,q2,harr2⟩ := k3 c hr φ' a1.tmps w1 hs' b kk cs
        rw [← actE hd] at harr2
        exact ⟨e2,a2,w2,q2,.of_steps (Steps.trans harr (.one step_inLoop)) harr2⟩
      | exit i =>
        refine ⟨.exit i,env1,nx1,H1,h1,h2,fun c hr φ tmps w hs b kk cs => ?_⟩
        obtain ⟨e,a1,w1,⟨rfl,hd,φ',hs'⟩,harr⟩ := h3 c hr φ tmps w hs b (.inLoop body :: kk) cs
        exact ⟨_,a1,w1,⟨rfl,hd,φ',hs'⟩,.pass (x := .inLoop body) rfl (fun _ _ => .inl (by simp [Ex.to])) harr⟩
      | ret =>
        refine ⟨.ret,env1,nx1,H1,h1,h2,fun c hr φ tmps w hs b kk cs => ?_⟩
        obtain ⟨e,a1,w1,⟨rfl,hd,φ',hs'⟩,harr⟩ := h3 c hr φ tmps w hs b (.inLoop body :: kk) cs
        exact ⟨_,a1,w1,⟨rfl,hd,φ',hs'⟩,.pass (x := .inLoop body) rfl (fun _ _ => .inl (by simp [Ex.to])) harr⟩
    rcases tryA_ok hD hcx hdx (show tryA P D cx hints body env nx H (fun env' H' => f env' nx H' (seqK (mLoopAN P D cx hints body f n) k)) (f env nx H (seqK (mLoopAN P D cx hints body f n) k)) = true from h) with h|⟨env1,H1,h,hsuf,hj⟩
    · exact core env H h
    · obtain ⟨x,env',nx',H',a,b,d⟩ := core env1 H1 h
      refine ⟨x,env',nx',H',a,hsuf.trans b,fun c hr φ tmps w hst bb kk cs => ?_⟩
      obtain ⟨φ1,t1,w1,s1,p1⟩ := hj c hr φ tmps w hst bb kk cs
      obtain ⟨e,a',w',q,harr⟩ := d c hr φ1 t1 w1 s1 bb kk cs
      exact ⟨e,a',w',q,.of_steps p1 harr⟩
theorem codeA_ok (hD : OkD D ρ) (hcx : ∀ ρ' Dx,OkD Dx ρ' → CallOk ρ' P (cx Dx)) (hdx : ∀ ρ' Dx,OkD Dx ρ' → DrawOk ρ' P Dx) (hdr : DrawOk ρ P D) {call : CallK} (hc : CallOk ρ P call) (hints : List LHint) : ∀ (code : Code),CodeOk ρ P (codeA P D cx call hints code) code
  | .skip => fun env nx H k h => ⟨.normal,env,nx,H,h,Suf.refl H,fun c _ φ tmps w hs => wp_skip ⟨rfl,rfl,φ,hs⟩⟩
  | .region id ops false => fun env nx H k h => by
    obtain ⟨env',nx',H',h1,h2,h3⟩ := opsF_ok hD hc (show opsF P D call ops ops.toList env nx H k = true from h)
    exact ⟨.normal,env',nx',H',h1,h2,fun c hr φ tmps w hs => wp_region_list (h3 c hr _ (fun φ tmps w hs => ⟨rfl,rfl,φ,hs⟩) φ tmps w hs)⟩
  | .region id ops true => fun env nx H k h => by
    obtain ⟨env',nx',H',h1,h2,h3⟩ := hdr hc (show drawF P D call ops env nx H k = true from h)
    exact ⟨.normal,env',nx',H',h1,h2,fun c hr => h3 c id hr⟩
  | .seq a b => seq_ok (codeA_ok hD hcx hdx hdr hc hints a) (codeA_ok hD hcx hdx hdr hc hints b)
  | .cond x t e => fun env nx H k h => by
    obtain ⟨v,h1,h⟩ := ob_inv (show ob (ev env x) (fun v => onB v (codeA P D cx call hints t env nx H k) (codeA P D cx call hints e env nx H k)) = true from h)
    have room : ∀ {nt : Nat},roomC nt (.cond x t e) = true → roomC nt t = true ∧ roomC nt e = true := fun hr => oc_inv hr
    have ev' : ∀ {c φ tmps w b},St ρ c nx env H φ tmps w → v = .b b → (act tmps).eval x = .bool b := fun hs e1 => by
      have := ev_rel hs h1
      rw [e1] at this
      generalize (act _).eval x = y at this
      cases this; rfl
    rcases onB_inv h with ⟨e1,h⟩|⟨e1,h⟩
    · obtain ⟨y,env',nx',H',k1,k2,k3⟩ := codeA_ok hD hcx hdx hdr hc hints t _ _ _ _ h
      exact ⟨y,env',nx',H',k1,k2,fun c hr φ tmps w hs => wp_cond (ev' hs e1) (k3 c (room hr).1 φ tmps w hs)⟩
    · obtain ⟨y,env',nx',H',k1,k2,k3⟩ := codeA_ok hD hcx hdx hdr hc hints e _ _ _ _ h
      exact ⟨y,env',nx',H',k1,k2,fun c hr φ tmps w hs => wp_cond (ev' hs e1) (k3 c (room hr).2 φ tmps w hs)⟩
  | .block id body => fun env nx H k h => by
    obtain ⟨x,env1,nx1,H1,h1,h2,h3⟩ := codeA_ok hD hcx hdx hdr hc hints body _ _ _ _ (show codeA P D cx call hints body env nx H (blockK id k) = true from h)
    cases x with
    | normal =>
      refine ⟨.normal,env1,nx1,H1,h1,h2,fun c hr φ tmps w hs => wp_block (Code.wp_mono (fun e a' w' hp => ?_) (h3 c hr φ tmps w hs))⟩
      obtain ⟨rfl,hd⟩ := hp
      exact ⟨rfl,hd⟩
    | ret =>
      refine ⟨.ret,env1,nx1,H1,h1,h2,fun c hr φ tmps w hs => wp_block (Code.wp_mono (fun e a' w' hp => ?_) (h3 c hr φ tmps w hs))⟩
      obtain ⟨rfl,hd⟩ := hp
      exact ⟨rfl,hd⟩
    | exit i =>
      rcases ow_inv (show ow (Nat.beq i id) (k .normal env1 nx1 H1) (k (.exit i) env1 nx1 H1) = true from h1) with ⟨e1,h1⟩|⟨e1,h1⟩
      · have e1 := Nat.eq_of_beq_eq_true e1
        refine ⟨.normal,env1,nx1,H1,h1,h2,fun c hr φ tmps w hs => wp_block (Code.wp_mono (fun e a' w' hp => ?_) (h3 c hr φ tmps w hs))⟩
        obtain ⟨rfl,hd⟩ := hp
        show (if i = id then PostB ρ c .normal env1 nx1 H1 .normal a' w' else _)
        rw [if_pos e1]
        exact ⟨rfl,hd⟩
      · have e1 : i ≠ id := fun e => by rw [e,Nat.beq_refl] at e1; cases e1
        refine ⟨.exit i,env1,nx1,H1,h1,h2,fun c hr φ tmps w hs => wp_block (Code.wp_mono (fun e a' w' hp => ?_) (h3 c hr φ tmps w hs))⟩
        obtain ⟨rfl,hd⟩ := hp
        show (if i = id then _ else PostB ρ c (.exit i) env1 nx1 H1 (.exit i) a' w')
        rw [if_neg e1]
        exact ⟨rfl,hd⟩
  | .loop body => fun env nx H k h => by
    obtain ⟨x,env',nx',H',h1,h2,h3⟩ := loopA_ok hD hcx hdx (codeA_ok hD hcx hdx hdr hc hints body) (show mLoopAN P D cx hints body (codeA P D cx call hints body) rounds env nx H k = true from h)
    refine ⟨x,env',nx',H',h1,h2,fun c hr φ tmps w hst b kk cs => ?_⟩
    obtain ⟨e,a',w',hq,harr⟩ := h3 c hr φ tmps w hst b kk cs
    exact ⟨e,a',w',hq,.of_steps (.one step_loop) harr⟩
  | .exit id => fun env nx H k h => ⟨.exit id,env,nx,H,h,Suf.refl H,fun c _ φ tmps w hs => wp_exit ⟨rfl,rfl,φ,hs⟩⟩
  | .ret => fun env nx H k h => ⟨.ret,env,nx,H,h,Suf.refl H,fun c _ φ tmps w hs => wp_ret ⟨rfl,rfl,φ,hs⟩⟩
  | .rangeFunc .. => fun env nx H k h => by cases (show false = true from h)
  | .scope .. => fun env nx H k h => by cases (show false = true from h)
  | .label .. => fun env nx H k h => by cases (show false = true from h)
  | .goto .. => fun env nx H k h => by cases (show false = true from h)
  | .refuse .. => fun env nx H k h => by cases (show false = true from h)
theorem stepA_ok (hD : OkD D ρ) (hcx : ∀ ρ' Dx,OkD Dx ρ' → CallOk ρ' P (cx Dx)) (hdx : ∀ ρ' Dx,OkD Dx ρ' → DrawOk ρ' P Dx) (hdr : DrawOk ρ P D) {call : CallK} (hc : CallOk ρ P call) (ls : LHs) : CallOk ρ P (stepA P D cx call ls) := fun {g args nx H k} h => by
  have h : (List.rec (motive := fun _ => Bool) (stepF P D call g args nx H k) (fun _ _ _ => ob (tfun P g) fun r => oc (Nat.ble (len args) r.1) (codeA P D cx call (lhOf ls g) r.2.1 (argE args 0) nx H (finK P r.2.2 k))) (lhOf ls g) : Bool) = true := h
  by_cases hnil : lhOf ls g = []
  · rw [hnil] at h; exact stepF_ok hD hdr hc h
  obtain ⟨hh,tt,hcons⟩ := List.exists_cons_of_ne_nil hnil
  have h : ob (tfun P g) (fun r => oc (Nat.ble (len args) r.1) (codeA P D cx call (lhOf ls g) r.2.1 (argE args 0) nx H (finK P r.2.2 k))) = true := by
    generalize hx : ob (tfun P g) (fun r => oc (Nat.ble (len args) r.1) (codeA P D cx call (lhOf ls g) r.2.1 (argE args 0) nx H (finK P r.2.2 k))) = X at h ⊢
    rw [hcons] at h; exact h
  obtain ⟨r,h1,h⟩ := ob_inv h
  obtain ⟨h2,h⟩ := oc_inv h
  obtain ⟨fn,f1,f2,f3,f4,f5,f6⟩ := tfun_some h1
  have hle := Nat.le_of_ble_eq_true h2
  rw [len_eq] at hle
  obtain ⟨x,env',nx',H',k1,k2,k3⟩ := codeA_ok hD hcx hdx hdr hc (lhOf ls g) r.2.1 _ _ _ _ h
  have fin : ∃ v,k v nx' H' = true ∧ (x = .ret ∨ x = .normal) ∧ ∀ {c φ tmps w},St ρ c nx' env' H' φ tmps w → ∃ u,(results fn tmps).run P w = .ok u w ∧ Rel ρ φ nx' v u := by
    cases x with
    | normal =>
      obtain ⟨xs,g1,g2⟩ := results_ok (ρ := ρ) (nx := nx') (fn := fn) (show resL P env' H' fn.results.toList (fun xs => k (packM xs) nx' H') = true by rw [f6]; exact k1)
      exact ⟨_,g1,.inr rfl,g2⟩
    | exit i => cases (show false = true from k1)
    | ret =>
      obtain ⟨xs,g1,g2⟩ := results_ok (ρ := ρ) (nx := nx') (fn := fn) (show resL P env' H' fn.results.toList (fun xs => k (packM xs) nx' H') = true by rw [f6]; exact k1)
      exact ⟨_,g1,.inl rfl,g2⟩
  obtain ⟨v,hk,hx,hres⟩ := fin
  refine ⟨v,nx',H',⟨⟨fn,f1,by rw [f2]; rfl,f3⟩,fun w φ vals hok hsz hargs => ?_⟩,hk,k2⟩
  let c : Ctx := { w0 := w,O0 := Own φ H,k := nx,φ0 := φ,nt := fn.ntmps }
  refine calls_of_wp f1 f2 ?_
  have hst : St ρ c nx (argE args 0) H φ (vals ++ Array.replicate (fn.ntmps - vals.size) undef) w := by
    refine ⟨hok,fun n a hk => ?_,Ext.refl _ _,⟨Nat.le_refl _,fun n _ => rfl⟩,by show (vals ++ Array.replicate (fn.ntmps - vals.size) undef).size = fn.ntmps; simp; omega⟩
    rw [look_argE] at hk
    simp only [Nat.zero_le,if_true,Nat.sub_zero] at hk
    have hlt : n < vals.size := by rw [hsz]; exact (List.getElem?_eq_some_iff.1 hk).1
    exact ⟨vals[n],by rw [Array.getElem?_append,if_pos hlt]; simp [hlt],hargs n a vals[n] hk (by simp [hlt])⟩
  refine Code.wp_mono (fun e a w' hp => ?_) (k3 c (by show roomC fn.ntmps r.2.1 = true; rw [f4]; exact f5) φ _ w hst)
  obtain ⟨rfl,hd,φ',hs'⟩ := hp
  obtain ⟨u,u1,u2⟩ := hres hs'
  have key : a.defers = [] ∧ ∃ v',(results fn a.tmps).run P w' = .ok v' w' ∧ ∃ φ' v'',Ending.returned v' = .returned v'' ∧ Ok ρ φ' nx' H' w' ∧ Rel ρ φ' nx' v v'' ∧ Ext w w' (Own φ H) (Own φ' H') ∧ nx ≤ nx' ∧ ∀ n,n < nx → φ' n = φ n :=
    ⟨hd,u,u1,φ',u,rfl,hs'.ok,u2,hs'.ext,hs'.keep.1,hs'.keep.2⟩
  rcases hx with rfl|rfl
  · exact key
  · exact key
theorem gcdraw (hm : P.follows .mixedOrders = true) : ∀ ρ' Dx,OkD Dx ρ' → DrawOk ρ' P Dx := fun _ _ h => drawOk hm h
theorem runZ_ok (hm : P.follows .mixedOrders = true) (hD : OkD D ρ) {fs : List PFact} (hfs : PFactsOk ρ P fs) {rs rx : TRs} (hrs : TRulesOk ρ P rs) (hrx : ∀ ρ',TRulesOk ρ' P rx) (ls : LHs) (gs : List Nat) : ∀ (n : Nat),CallOk ρ P (runZ P D fs rs rx ls gs n)
  | 0 => fun h => by cases (show false = true from h)
  | n + 1 => pfactsW_ok (tsW_ok hD hrs (gcW_ok (stepA_ok hD (fun ρ' Dx h => runY_ok hm h pfacts_nil (hrx ρ') [] 100) (gcdraw hm) (drawOk hm hD) (runZ_ok hm hD hfs hrs hrx ls gs n) ls) gs)) hfs
theorem truleZ_ok (hm : P.follows .mixedOrders = true) (hD : OkD D ρ) {fs : List PFact} (hfs : PFactsOk ρ P fs) {rs rx : TRs} (hrs : TRulesOk ρ P rs) (hrx : ∀ ρ',TRulesOk ρ' P rx) {ls : LHs}{gs : List Nat}{n : Nat}{r : TRule} (h : truleZ P D fs rs rx ls gs n r = true) : TRuleAt ρ P r := by
  obtain ⟨h1,h⟩ := oc_inv h
  obtain ⟨v,m',H',t,hk,_⟩ := runZ_ok hm hD hfs hrs hrx ls gs n h
  exact .of h1 t hk
theorem Ans.ofZ {P : Program} (hm : P.follows .mixedOrders = true) (hD : OkD D ρ) {fs : List PFact} (hfs : PFactsOk ρ P fs) {rs rx : TRs} (hrs : TRulesOk ρ P rs) (hrx : ∀ ρ',TRulesOk ρ' P rx) {ls : LHs}{gs : List Nat}{n g : Nat}{args : List MV}{x : MV}
    (h : runZ P D fs rs rx ls gs n g args 0 [] (fun v _ _ => eqV v x) = true) : Ans ρ P g args x := by
  obtain ⟨r,nx',H',t,hk,_⟩ := runZ_ok hm hD hfs hrs hrx ls gs n h
  have hH : ∀ H : Heap,AlikeH ρ ρ H H := fun H => ⟨fun n o hn => ⟨o,hn,fun φ nx => ⟨Iff.rfl,fun w n => Iff.rfl⟩⟩,fun n o hn => ⟨o,hn,fun φ nx => ⟨Iff.rfl,fun w n => Iff.rfl⟩⟩⟩
  exact ⟨nx',H',t.alike rfl (fun i a a' h1 h2 φ nx => by rw [h1] at h2; cases h2; exact fun u => Iff.rfl) (hH []) (fun φ nx => (eqV_ok r x hk).symm) (hH H')⟩
end
end Go.Proofs.YtnajikpdnccilaaGreat.Pv.M
namespace Go.Proofs.YtnajikpdnccilaaGreat.Pv
open Go Go.Proofs.YtnajikpdnccilaaGreat.Pv
abbrev ti5 : TI := { kd := .int .u8,size := 1,bytes := 1,zero := [.int .u8 0] }
theorem tiok5 : TIok Tryz.prog 5 ti5 := TIok.of (z := (.int .u8 0)) (by kernel_rfl) rfl (fun h => by cases h) rfl Tryz.underlying5 (by decide)
abbrev ti30 : TI := { kd := .slice 5,size := 1,bytes := 24,zero := [.slice none 0 0] }
theorem tiok30 : TIok Tryz.prog 30 ti30 := TIok.of (z := (.slice none 0 0)) (by kernel_rfl) rfl (fun h => by cases h) rfl Tryz.underlying30 (by decide)
abbrev ti34 : TI := { kd := .int .u16,size := 1,bytes := 2,zero := [.int .u16 0] }
theorem tiok34 : TIok Tryz.prog 34 ti34 := TIok.of (z := (.int .u16 0)) (by kernel_rfl) rfl (fun h => by cases h) rfl Tryz.underlying34 (by decide)
def tabL : List (Nat × TI) := [(5,ti5),(30,ti30),(34,ti34)]
def tab : Tab := look tabL
theorem tab_5 : tab 5 = some ti5 := by rfl
theorem tab_30 : tab 30 = some ti30 := by rfl
theorem tab_34 : tab 34 = some ti34 := by rfl
theorem tabOk : TabOk Tryz.prog tab := TabOk.of (by
  simp only [AllTI,tabL]
  exact ⟨tiok5,tiok30,tiok34,trivial⟩)
theorem mixed : Tryz.prog.follows .mixedOrders = true := by kernel_rfl
abbrev enc8 (b : UInt8) : FV := .v (.int .u8 (b.toNat : Nat))
abbrev pN (x : Nat) : PV := .f (.v (.int .i64 ((x : Nat) : Int)))
abbrev p8 (b : UInt8) : PV := .f (.v (.int .u8 (b.toNat : Nat)))
abbrev p16 (b : UInt16) : PV := .f (.v (.int .u16 (b.toNat : Nat)))
abbrev pK (k : IntKind) (x : Int) : PV := .f (.v (.int k x))
abbrev pS {α : Type} (sz : Nat) (cl : Bool) (f : α → FV) (l : List α) : PV := .f (.sl sz cl (l.map f))
theorem get_of_lt {α : Type} (l : List α) {i : Nat} (h : i < l.length) : ∃ y,l[i]? = some y := ⟨l[i],by simp [h]⟩
theorem mapget {α β : Type}{f : α → β}{l : List α}{i : Nat}{y : α} (h : l[i]? = some y) : (l.map f)[i]? = some (f y) := by simp [h]
section
variable {P : Program}{tab : Tab}{c : Ctx}{nx : Nat}{env : Env}{H H' : Heap}{K : PV → Nat → Heap → Prop}{t u : Nat}{x y : Operand}{α : Type}{f : α → FV}
theorem hM_sl {sz : Nat}{cl : Bool}{l : List α} (h : ev env x = some (.f (.sl sz cl (l.map f)))) : Holds env H x sz (l.map f) := holds_sl h
theorem s_lenM {e sz : Nat}{i : TI}{l : List α} (h1 : tab t = some i) (h2 : i.kd = .slice e) (h3 : Holds env H x sz (l.map f)) (h : K (pN l.length) nx H) :
    stepOp P tab env nx H K (.call { callee := .builtin .len,args := #[x],argTypes := #[t] }) := s_len h1 h2 h3 (by rw [List.length_map]; exact h)
section
variable {e : Nat}{lo hi : Option Operand}{p m : Operand}{i ie : TI}{cl : Bool}{l : List α}{a b sz : Nat}
end
section
variable {e : Nat}{ix : Operand}{i ie : TI}{k : IntKind}{cl wr : Bool}{l : List α}{b : α}{q n lo sz : Nat}{qi : Int}
theorem s_iaM (h1 : tab t = some i) (h2 : i.kd = .slice e) (h3 : tab e = some ie) (hz : ie.size = sz) (h4 : ev env ix = some (.f (.v (.int k qi)))) (hq : qi = (q : Nat)) (h5 : ev env x = some (.f (.sl sz cl (l.map f)))) (h7 : l[q]? = some b) (h : K (.f (.ro (f b))) nx H) :
    stepOp P tab env nx H K (.indexAddr t x ix) := s_ia_sl h1 h2 h3 h4 (by rw [hz]; exact h5) (by omega) (by rw [hq,Int.toNat_natCast]; exact mapget h7) h
end
section
variable {e len sz : Nat}{i ie : TI}{l xs : List α}{wr : Bool}{n lo : Nat}
end
section
variable {a b r : Nat}{ai bi : Int}
theorem s_addN (h1 : ev env x = some (.f (.v (.int .i64 ai)))) (h2 : ev env y = some (.f (.v (.int .i64 bi)))) (ha : ai = (a : Nat)) (hb : bi = (b : Nat)) (hr : (a : Int) + b ≤ 9223372036854775807) (h : K (pN (a + b)) nx H) :
    stepOp P tab env nx H K (.binOp .add t x y u) := s_addi h1 h2 (by rw [ha,hb,Int.natCast_add]) (by omega) h
end
section
variable {ai : Int}{a : Nat}{k : IntKind}
theorem bits_nat (op : BinOp) (f : Nat → Nat → Nat) (hf : ∀ a b : BitVec 64,(match op with|.and => a &&& b|.or => a ||| b|.xor => a ^^^ b|_ => a &&& ~~~b).toNat = f a.toNat b.toNat) {a b : Nat} (ha : a < 2 ^ 63) (hb : b < 2 ^ 63) (hr : f a b < 2 ^ 63)
    (hop : op = .and ∨ op = .or ∨ op = .xor) : bitI op .i64 a b = ((f a b : Nat) : Int) := by
  have e : IntKind.i64.bits = 64 := rfl
  have ea : (BitVec.ofInt 64 (a : Int)).toNat = a := by simp [BitVec.toNat_ofInt]; omega
  have eb : (BitVec.ofInt 64 (b : Int)).toNat = b := by simp [BitVec.toNat_ofInt]; omega
  have h := hf (BitVec.ofInt 64 (a : Int)) (BitVec.ofInt 64 (b : Int))
  rw [ea,eb] at h
  rcases hop with rfl|rfl|rfl
  · have : bitI .and .i64 a b = IntKind.i64.wrap ((BitVec.ofInt 64 (a : Int) &&& BitVec.ofInt 64 (b : Int)).toNat : Int) := rfl
    rw [this,h,wrap_i64 (by omega)]
  · have : bitI .or .i64 a b = IntKind.i64.wrap ((BitVec.ofInt 64 (a : Int) ||| BitVec.ofInt 64 (b : Int)).toNat : Int) := rfl
    rw [this,h,wrap_i64 (by omega)]
  · have : bitI .xor .i64 a b = IntKind.i64.wrap ((BitVec.ofInt 64 (a : Int) ^^^ BitVec.ofInt 64 (b : Int)).toNat : Int) := rfl
    rw [this,h,wrap_i64 (by omega)]
end
section
variable {s : Nat}{is it : TI}{k k2 : IntKind}{ai : Int}
end
end
section
variable {P : Program}{tab : Tab}{c : Ctx}{nx : Nat}{env : Env}{H H' : Heap}{code : Code}{Q : Post}
def SubE : Env → Env → Prop
  | [],_ => True
  | (k,p) :: t,e => look e k = some p ∧ SubE t e
theorem SubE.get : ∀ {a b : Env},SubE a b → ∀ k p,look a k = some p → look b k = some p
  | [],_,_,k,p,h => by simp [look] at h
  | (q,x) :: t,b,hs,k,p,h => by
    simp only [look] at h
    split at h
    · rename_i e; subst e; cases h; exact hs.1
    · exact SubE.get hs.2 k p h
theorem le_refl (x : PV) : PV.le x x := fun _ _ _ _ _ h => h
def LeL : List PV → List PV → Prop
  | [],[] => True
  | x :: s,y :: t => PV.le x y ∧ LeL s t
  | _,_ => False
theorem LeL.get : ∀ {a b : List PV},LeL a b → a.length = b.length ∧ ∀ (i : Nat) x y,a[i]? = some x → b[i]? = some y → PV.le x y
  | [],[],_ => ⟨rfl,fun i x y h => by simp at h⟩
  | [],_ :: _,h => h.elim
  | _ :: _,[],h => h.elim
  | x :: s,y :: t,h => by
    obtain ⟨k1,k2⟩ := LeL.get h.2
    refine ⟨by simp [k1],fun i a b ha hb => ?_⟩
    cases i with
    | zero => simp at ha hb; subst ha; subst hb; exact h.1
    | succ i => exact k2 i a b (by simpa using ha) (by simpa using hb)
theorem T.post {g : Nat}{args : List PV}{k : Nat}{R R' : PV → Nat → Heap → Prop} (h : T P g args k H R) (hr : ∀ a b d,R a b d → R' a b d) : T P g args k H R' := h.mono fun a b d k => hr a b d k
end
def V (c : Ctx) (G : Act → World → Prop) (env : Env) (nx : Nat) (H : Heap) : Prop := ∀ φ tmps w,StΦ c nx env H φ tmps w → G (act tmps) w
def R (P : Program) (c : Ctx) (ops : Array Oper) (rest : List Oper) (env : Env) (nx : Nat) (H : Heap) (Q : Post) : Prop := V c (wpList P ops (PostOf c Q) rest) env nx H
section
variable {c : Ctx}{G : Act → World → Prop}{nx : Nat}{env : Env}{H H' : Heap}
theorem v_le {s : Nat}{x y : PV} (he : look env s = some x) (hl : PV.le x y) (h : V c G ((s,y) :: env) nx H) : V c G env nx H := by
  intro φ tmps w hs
  refine h φ tmps w ⟨hs.ok,fun m q hm => ?_,hs.ext,hs.keep,hs.size⟩
  by_cases e : s = m
  · subst e
    rw [look_cons_same] at hm; cases hm
    obtain ⟨v,k1,k2⟩ := hs.env s x he
    exact ⟨v,k1,hl _ _ _ _ _ k2⟩
  · rw [look_cons_ne _ _ e] at hm
    exact hs.env m q hm
end
section
variable {P : Program}{tab : Tab}{c : Ctx}{nx : Nat}{env : Env}{H H' : Heap}{Q : Post}{ops : Array Oper}{rest : List Oper}{code : Code}
theorem w_le {s : Nat}{x y : PV} (he : look env s = some x) (hl : PV.le x y) (h : W P c code ((s,y) :: env) nx H Q) : W P c code env nx H Q := v_le he hl h
theorem r_end (h : Q .normal env nx H) : R P c ops [] env nx H Q := fun φ tmps w hs => ⟨.normal,env,nx,H,φ,rfl,rfl,hs,h⟩
theorem run_R (ht : TabOk P tab) {o : Oper} (hd : dstOk c.nt o.dst = true) (h : stepOp P tab env nx H (fun pv nx' H' => R P c ops rest (putE o.dst pv env) nx' H' Q) o.op) {φ : Nat → Phys}{tmps : Array Value}{w : World} (hs : StΦ c nx env H φ tmps w) :
    o.wp P (act tmps) w (wpList P ops (PostOf c Q) rest) (PostOf c Q) := by
  refine does_op ht h φ tmps w hs _ _ fun pv nx' H' φ' v w' hk hs' hr => ?_
  have e : (act tmps).put o.dst v = act ((act tmps).put o.dst v).tmps := by cases o.dst <;> rfl
  rw [e]
  exact hk φ' _ w' (hs'.putE hr hd)
theorem r_op (ht : TabOk P tab) {dst : Option Nat}{op : Op}{t : Nat}{p : String}{a : Array Edge}{nt : Nat} (hnt : c.nt = nt) (hd : dstOk nt dst = true) (h : stepOp P tab env nx H (fun pv nx' H' => R P c ops rest (putE dst pv env) nx' H' Q) op) : R P c ops (⟨dst,op,t,p,a,none⟩ :: rest) env nx H Q := by
  subst hnt
  intro φ tmps w hs
  unfold wpList
  rw [if_pos (by simp [Region.wanted])]
  exact .inl (run_R ht (o := ⟨dst,op,t,p,a,none⟩) hd h hs)
theorem r_gd (ht : TabOk P tab) {dst : Option Nat}{op : Op}{t : Nat}{p : String}{a : Array Edge}{nt : Nat} (hnt : c.nt = nt) {j d : Nat}{want : Bool}{v : Value} (hj : (ops[j]?).bind (·.dst) = some d) (hb : look env d = some (.f (.v v))) (hd : dstOk nt dst = true)
    (h1 : vb v = some want → R P c ops (⟨dst,op,t,p,a,none⟩ :: rest) env nx H Q) (h2 : vb v ≠ some want → R P c ops rest (dropE dst env) nx H Q) : R P c ops (⟨dst,op,t,p,a,some (j,want)⟩ :: rest) env nx H Q := by
  subst hnt
  intro φ tmps w hs
  obtain ⟨u,k1,k2⟩ := hs.env d _ hb
  have hv := k2.v_inv
  subst hv
  have hy := yielded_vb hj k1
  unfold wpList
  by_cases hw : vb u = some want
  · rw [if_pos (by simp [Region.wanted,hy,hw])]
    have h3 := h1 hw φ tmps w hs
    unfold wpList at h3
    rw [if_pos (by simp [Region.wanted])] at h3
    exact h3
  · rw [if_neg (by simp [Region.wanted,hy,hw])]
    have e : (act tmps).put dst undef = act ((act tmps).put dst undef).tmps := by cases dst <;> rfl
    show wpList P ops (PostOf c Q) rest ((act tmps).put dst undef) w
    rw [e]
    exact h2 hw φ _ w (hs.putE (.f (.v undef)) hd)
theorem w_R {id : Nat} (h : R P c ops ops.toList env nx H Q) : W P c (.region id ops false) env nx H Q := fun φ tmps w hs => wp_region_list (h φ tmps w hs)
def FLe (x y : FV) : Prop := ∀ w S v,RepF w S x v → RepF w S y v
theorem FLe.refl (x : FV) : FLe x x := fun _ _ _ h => h
theorem FLe.of {x y : FV} (h : x = y) : FLe x y := by subst h; exact FLe.refl x
theorem FLe.nil (sz : Nat) (cl : Bool) : FLe (.v (.slice none 0 0)) (.sl sz cl []) := by
  intro w S v h; cases h; exact .slnil sz cl
def FLeL : List FV → List FV → Prop
  | [],[] => True
  | x :: s,y :: t => FLe x y ∧ FLeL s t
  | _,_ => False
theorem FLeL.get : ∀ {a b : List FV},FLeL a b → a.length = b.length ∧ ∀ (i : Nat) x y,a[i]? = some x → b[i]? = some y → FLe x y
  | [],[],_ => ⟨rfl,fun i x y h => by simp at h⟩
  | [],_ :: _,h => h.elim
  | _ :: _,[],h => h.elim
  | x :: s,y :: t,h => by
    obtain ⟨k1,k2⟩ := FLeL.get h.2
    refine ⟨by simp [k1],fun i a b ha hb => ?_⟩
    cases i with
    | zero => simp at ha hb; subst ha; subst hb; exact h.1
    | succ i => exact k2 i a b (by simpa using ha) (by simpa using hb)
theorem FLe.agg {cs ds : List FV} (h : FLeL cs ds) : FLe (.agg cs) (.agg ds) := by
  intro w S v hv
  obtain ⟨h1,h2⟩ := h.get
  cases hv with
  | agg _ vs a1 a2 a3 =>
    refine .agg ds vs (by rw [a1,h1]) a2 fun i d u hd hu => ?_
    have hi : i < cs.length := by rw [h1]; exact (List.getElem?_eq_some_iff.1 hd).1
    exact h2 i cs[i] d (by simp [hi]) hd _ _ _ (a3 i cs[i] u (by simp [hi]) hu)
theorem s_callF {f : Operand}{args : Array Operand}{ts : Array Nat}{g : Nat}{ps : List PV}{r : PV} (h1 : ev env f = some (.clo (.func g) [])) (h2 : evs env args.toList = some ps) (h3 : ps.all isF = true) (ht : T P g ps 0 [] (Ret r 0 []))
    (hr : has (fun _ => false) r = true) {K : PV → Nat → Heap → Prop} (h : K r nx H) : stepOp P tab env nx H K (.call { callee := .value f,args := args,argTypes := ts }) := s_call0 h1 h2 h3 ht hr h
end
section
variable {P : Program}{c : Ctx}{nx : Nat}{env : Env}{H : Heap}{Q : Post}{body a b : Code}
theorem loop2 {A0 A1 : Type} (I : A0 → A1 → Prop) (E : A0 → A1 → Env) (N : Nat) (G : A0 → A1 → Heap) (μ : A0 → A1 → Nat) (z0 : A0) (z1 : A1) (hI : (I z0 z1)) (h0 : Emb c.k (E z0 z1) N (G z0 z1) env H)
    (round : ∀ a0 a1,(I a0 a1) → W P c body (E a0 a1) N (G a0 a1) (thenP (fun env' _ H' => ∃ y0 y1,(I y0 y1) ∧ (μ y0 y1) < (μ a0 a1) ∧ Emb c.k (E y0 y1) N (G y0 y1) env' H') Q)) : W P c (.loop body) env nx H Q :=
  w_loop (α := A0 × A1) (fun x => (I x.1 x.2)) (fun x => (E x.1 x.2)) (fun _ => N) (fun x => (G x.1 x.2)) (fun x => (μ x.1 x.2)) (z0,z1) hI h0 fun x hx => (round x.1 x.2 hx).mono fun e env nx H h => by
    cases e with
    | normal => obtain ⟨y0,y1,q1,q2,q3⟩ := h; exact ⟨(y0,y1),q1,q2,q3⟩
    | exit i => exact h
    | ret => exact h
end
def HandP (H : Heap) : List Nat → List Obj → Prop
  | n :: ns,o :: os => look H n = some o ∧ HandP H ns os
  | [],[] => True
  | _,_ => False
theorem HandP.get {H : Heap} : ∀ {ns : List Nat}{os : List Obj},HandP H ns os → os.length = ns.length ∧ ∀ (i : Nat) n,ns[i]? = some n → ∃ o,os[i]? = some o ∧ look H n = some o
  | [],[],_ => ⟨rfl,fun i n h => by simp at h⟩
  | [],_ :: _,h => h.elim
  | _ :: _,[],h => h.elim
  | n :: ns,o :: os,h => by
    obtain ⟨h1,h2⟩ := h
    obtain ⟨k1,k2⟩ := HandP.get h2
    refine ⟨by simp [k1],fun i m hm => ?_⟩
    cases i with
    | zero => simp at hm; subst hm; exact ⟨o,rfl,h1⟩
    | succ i => simpa using k2 i m (by simpa using hm)
section
variable {P : Program}{c : Ctx}{nx : Nat}{env : Env}{H : Heap}{Q : Post}{ops : Array Oper}{rest : List Oper}{code : Code}{α : Type}{f : α → FV}{s n lo sz : Nat}{hi : Option Nat}{wr : Bool}{l l2 : List α}
end
section
variable {P : Program}{tab : Tab}{nx : Nat}{env : Env}{H : Heap}{K : PV → Nat → Heap → Prop}{t u : Nat}{x : Operand}
end
section
variable {P : Program}{tab : Tab}{ops : Array Oper}{B : List (List Nat)}{rest : List Oper}{acc : List Cert}{env : Env}{nx : Nat}{H : Heap}{C : List Cert → Env → Nat → Heap → Prop}{dst : Option Nat}{op : Op}{t : Nat}{p : String}{a : Array Edge}
end
def ReadsB (P : Program) (t : TypeId) (α : Type) (f : α → FV) (B : α → Prop) : Prop :=
  ∀ (H : Type) (enc : TypeId × Value → H) (w : World) (base : Nat) (held : Bool) (fuel : Nat) (cs : List Value) (d : DataW H) (ps : List MemPlace),DataW.trod enc P w base (fun _ => true) held fuel t cs = some (d,ps) →
    ∃ a,((∀ n ∈ d.weights P t,n ≤ reachBytes) → B a) ∧ (f a).cells.length = cs.length ∧ ∀ (j : Nat) c u,(f a).cells[j]? = some c → cs[j]? = some u → RepF w Noone c u ∧ one u = true
theorem ReadsB.of {P : Program}{t : TypeId}{α : Type}{f : α → FV}{R : (H : Type) → α → DataW H → Prop} (h : Reads P t α f R) : ReadsB P t α f fun _ => True := by
  intro H enc w base held fuel cs d ps ht
  obtain ⟨a,_,h2,h3⟩ := h H enc w base held fuel cs d ps ht
  exact ⟨a,fun _ => trivial,h2,h3⟩
theorem ReadsB.map {P : Program}{t : TypeId}{α β : Type}{f : α → FV}{g : β → FV}{B : α → Prop}{B' : β → Prop} (h : ReadsB P t α f B) (m : α → β) (hm : ∀ a,g (m a) = f a) (hb : ∀ a,B a → B' (m a)) : ReadsB P t β g B' := by
  intro H enc w base held fuel cs d ps ht
  obtain ⟨a,h1,h2,h3⟩ := h H enc w base held fuel cs d ps ht
  exact ⟨m a,fun hn => hb _ (h1 hn),by rw [hm]; exact h2,by rw [hm]; exact h3⟩
theorem ReadsB.arg {P : Program}{t : TypeId}{α : Type}{f : α → FV}{B : α → Prop} (h : ReadsB P t α f B) {H : Type}{enc : TypeId × Value → H}{w : World}{base : Nat}{held : Bool}{fuel : Nat}{v : Value}{d : DataW H}{ps : List MemPlace}
    {ts : List TypeId}{ds : List (DataW H)} (hsz : (DataW.weightsEach P ts ds).all (· ≤ reachBytes) = true) {j : Nat} (ht : ts[j]? = some t) (hd : ds[j]? = some d)
    (hf : DataW.trod enc P w base (fun _ => true) held fuel t v.cells.toList = some (d,ps)) (hv : ∀ a,(f a).isAgg = true → ∃ cs,v = .agg cs) (hv2 : ∀ a,(f a).isAgg = false → v.cells = #[v]) : ∃ a,B a ∧ Rep φ00 0 w Noone (.f (f a)) v := by
  obtain ⟨a,h1,h2,h3⟩ := h H enc w base held fuel _ d ps hf
  refine ⟨a,h1 fun n hn => by simpa using List.all_eq_true.1 hsz n (DataW.weights_mem_each ht hd n hn),.f ?_⟩
  cases hq : (f a).isAgg with
  | true =>
    obtain ⟨cs,rfl⟩ := hv a hq
    cases hfa : f a with
    | agg ds =>
      rw [hfa] at h2 h3
      simp only [FV.cells,Value.cells,Array.length_toList] at h2 h3
      refine .agg ds cs h2.symm (fun i u hu => ?_) fun i c u hc hu => (h3 i c u hc (by simpa using hu)).1
      have hi : i < ds.length := by rw [h2]; exact (Array.getElem?_eq_some_iff.1 hu).1
      exact (h3 i ds[i] u (by simp [hi]) (by simpa using hu)).2
    | _ => rw [hfa] at hq; cases hq
  | false =>
    have hvv := hv2 a hq
    rw [hvv] at h3
    have hc : (f a).cells = [f a] := by cases hfa : f a <;> first|rfl|(rw [hfa] at hq; cases hq)
    exact (h3 0 (f a) v (by rw [hc]; rfl) rfl).1
theorem ReadsB.reads {P : Program}{t : TypeId}{α : Type}{f : α → FV}{B : α → Prop} (h : ReadsB P t α f B) : Reads P t α f fun _ _ _ => True := by
  intro H enc w base held fuel cs d ps hd
  obtain ⟨a,_,h2,h3⟩ := h H enc w base held fuel cs d ps hd
  exact ⟨a,trivial,h2,h3⟩
section
variable {P : Program}{Q Q' : Exit → Act → World → Prop}
theorem letsOut_imp (hq : ∀ e a w,e ≠ .normal → Q e a w → Q' e a w) (h : LetsOut Q) : LetsOut Q' := by
  obtain ⟨a,w,h⟩ := h
  exact ⟨a,w,hq _ _ _ (by simp) h⟩
theorem wp_imp {o : Oper}{a : Act}{w : World}{K K' : Act → World → Prop} (hq : ∀ e a w,e ≠ .normal → Q e a w → Q' e a w) (h : ∀ a w,K a w → K' a w)
    (hh : o.wp P a w K Q) : o.wp P a w K' Q' := by
  unfold Oper.wp at *
  generalize (execOp a.eval o).run P w = r at *
  cases r with
  | ok n w' =>
    cases n <;> simp only [Oper.upon] at hh ⊢ <;>
      first
        | exact h _ _ hh
        | exact Calls.mono hh (fun e w'' he => by cases e <;> first|exact h _ _ he|exact hq _ _ _ (by simp) he|exact letsOut_imp hq he)
        | exact Rows.mono hh (fun _ _ he => h _ _ he)
  | halt x w' => cases x <;> simp only [Oper.upon] at hh ⊢ <;> first|exact hh|exact hq _ _ _ (by simp) hh
theorem wpList_cut {ops : Array Oper} : ∀ (n : Nat) (l : List Oper) (a : Act) (w : World),(∀ e a w,e ≠ .normal → Q e a w → Q' e a w) → (∀ a w,Q .normal a w → wpList P ops Q' (l.drop n) a w) →
    wpList P ops Q (l.take n) a w → wpList P ops Q' l a w
  | 0,l,a,w,hq,hn,h => hn a w h
  | n + 1,[],a,w,hq,hn,h => hn a w h
  | n + 1,o :: l,a,w,hq,hn,h => by
    simp only [List.take_succ_cons,wpList] at h ⊢
    split
    · rename_i hw
      rw [if_pos hw] at h
      rcases h with h|h
      · exact .inl (wp_imp hq (fun a w => wpList_cut n l a w hq hn) h)
      · exact .inr ⟨h.1,letsOut_imp hq h.2⟩
    · rename_i hw
      rw [if_neg hw] at h
      exact wpList_cut n l _ w hq hn h
end
section
variable {P : Program}{c : Ctx}{nx : Nat}{env : Env}{H : Heap}{Q : Post}{ops : Array Oper}{l : List Oper}
theorem R_cut (n : Nat) {mid : Env → Nat → Heap → Prop} (h1 : R P c ops (l.take n) env nx H (thenP mid Q)) (h2 : ∀ env nx H,mid env nx H → R P c ops (l.drop n) env nx H Q) : R P c ops l env nx H Q := by
  intro φ tmps w hs
  refine wpList_cut n l (act tmps) w ?_ ?_ (h1 φ tmps w hs)
  · rintro e a w he ⟨x,env,nx,H,φ,e1,e2,e3,e4⟩
    refine ⟨x,env,nx,H,φ,e1,e2,e3, ?_⟩
    cases x with
    | normal => exact absurd e1 he
    | exit i => exact e4
    | ret => exact e4
  · rintro a w ⟨x,env,nx,H,φ,e1,e2,e3,e4⟩
    cases x with
    | exit i => cases e1
    | ret => cases e1
    | normal =>
      have := h2 env nx H e4 φ a.tmps w e3
      obtain ⟨tm,df⟩ := a
      simp only at e2
      subst e2
      exact this
theorem r_mid {mid : Env → Nat → Heap → Prop} (h : mid env nx H) : R P c ops [] env nx H (thenP mid Q) := r_end h
end
section
variable {P : Program}{tab : Tab}{nx : Nat}{env : Env}{H : Heap}{K : PV → Nat → Heap → Prop}
theorem sB : (∀ (p : Prop) [Decidable p],(decide p = true) = p) ∧ (∀ (p : Prop) [Decidable p],(decide p = false) = ¬p) ∧ (∀ b : Bool,((!b) = true) = (b = false)) ∧ (∀ b : Bool,((!b) = false) = (b = true)) ∧ ((!true) = false) ∧ ((!false) = true) ∧ (∀ a b : Int,(¬a < b) = (b ≤ a)) ∧ (∀ a b : Int,(¬a ≤ b) = (b < a)) :=
  ⟨fun p _ => by simp,fun p _ => by simp,fun b => by simp,fun b => by simp,rfl,rfl,fun a b => by simp,fun a b => by simp⟩
end
def ReadsK (S : {H : Type} → DataW H → Prop) (P : Program) (t : TypeId) (α : Type) (f : α → FV) (B : α → Prop) : Prop :=
  ∀ (H : Type) (enc : TypeId × Value → H) (w : World) (base : Nat) (held : Bool) (fuel : Nat) (cs : List Value) (d : DataW H) (ps : List MemPlace),DataW.trod enc P w base (fun _ => true) held fuel t cs = some (d,ps) →
    ∃ a,(S d → B a) ∧ (f a).cells.length = cs.length ∧ ∀ (j : Nat) c u,(f a).cells[j]? = some c → cs[j]? = some u → RepF w Noone c u ∧ one u = true
section
variable {S : {H : Type} → DataW H → Prop}
theorem ReadsK.map {P : Program}{t : TypeId}{α β : Type}{f : α → FV}{g : β → FV}{B : α → Prop}{B' : β → Prop} (h : ReadsK S P t α f B) (m : α → β) (hm : ∀ a,g (m a) = f a) (hb : ∀ a,B a → B' (m a)) : ReadsK S P t β g B' := by
  intro H enc w base held fuel cs d ps ht
  obtain ⟨a,h1,h2,h3⟩ := h H enc w base held fuel cs d ps ht
  exact ⟨m a,fun hn => hb _ (h1 hn),by rw [hm]; exact h2,by rw [hm]; exact h3⟩
theorem ReadsK.arg {P : Program}{t : TypeId}{α : Type}{f : α → FV}{B : α → Prop} (h : ReadsK S P t α f B) {H : Type}{enc : TypeId × Value → H}{w : World}{base : Nat}{held : Bool}{fuel : Nat}{v : Value}{d : DataW H}{ps : List MemPlace}
    (hsm : S d) (hf : DataW.trod enc P w base (fun _ => true) held fuel t v.cells.toList = some (d,ps)) (hv : ∀ a,(f a).isAgg = true → ∃ cs,v = .agg cs) (hv2 : ∀ a,(f a).isAgg = false → v.cells = #[v]) : ∃ a,B a ∧ Rep φ00 0 w Noone (.f (f a)) v := by
  obtain ⟨a,h1,h2,h3⟩ := h H enc w base held fuel _ d ps hf
  refine ⟨a,h1 hsm,.f ?_⟩
  cases hq : (f a).isAgg with
  | true =>
    obtain ⟨cs,rfl⟩ := hv a hq
    cases hfa : f a with
    | agg ds =>
      rw [hfa] at h2 h3
      simp only [FV.cells,Value.cells,Array.length_toList] at h2 h3
      refine .agg ds cs h2.symm (fun i u hu => ?_) fun i c u hc hu => (h3 i c u hc (by simpa using hu)).1
      have hi : i < ds.length := by rw [h2]; exact (Array.getElem?_eq_some_iff.1 hu).1
      exact (h3 i ds[i] u (by simp [hi]) (by simpa using hu)).2
    | _ => rw [hfa] at hq; cases hq
  | false =>
    have hvv := hv2 a hq
    rw [hvv] at h3
    have hc : (f a).cells = [f a] := by cases hfa : f a <;> first|rfl|(rw [hfa] at hq; cases hq)
    exact (h3 0 (f a) v (by rw [hc]; rfl) rfl).1
end
inductive XA where
  | o (n : Nat)
  | b (n : Nat) (us : List XA)
  | c (v : PV)
def AllP : List Prop → Prop
  | [] => True
  | p :: ps => p ∧ AllP ps
theorem AllP.left {a b : List Prop} (h : AllP (a ++ b)) : AllP a := by
  induction a with
  | nil => trivial
  | cons p t ih => exact ⟨h.1,ih h.2⟩
theorem AllP.right {a b : List Prop} (h : AllP (a ++ b)) : AllP b := by
  induction a with
  | nil => exact h
  | cons p t ih => exact ih h.2
def okI (x : Int) : Prop := -9223372036854775808 ≤ x ∧ x ≤ 9223372036854775807
def xBin (op : BinOp) (kd : Kd) : Value → Value → Option (List Prop × Value)
  | .int k a,.int k' b =>
    match decide (k = k') with
    | false => none
    | true =>
      match op with
      | .eql => some ([],.bool (decide (a = b)))
      | .neq => some ([],.bool (!decide (a = b)))
      | .lss => some ([],.bool (decide (a < b)))
      | .leq => some ([],.bool (decide (a ≤ b)))
      | .gtr => some ([],.bool (decide (b < a)))
      | .geq => some ([],.bool (decide (b ≤ a)))
      | .add => match decide (k = .i64) with|true => some ([okI (a + b)],.int .i64 (a + b))|false => none
      | .sub => match decide (k = .i64) with|true => some ([okI (a - b)],.int .i64 (a - b))|false => none
      | .mul => match decide (k = .i64) with|true => some ([okI (a * b)],.int .i64 (a * b))|false => none
      | _ => none
  | .bool a,.bool b =>
    match kd,op with
    | .bool,.eql => some ([],.bool (a == b))
    | .bool,.neq => some ([],.bool (!(a == b)))
    | _,_ => none
  | .pointer none,.pointer none =>
    match kd,op with
    | .ptr _,.eql => some ([],.bool true)
    | .ptr _,.neq => some ([],.bool false)
    | _,_ => none
  | _,_ => none
theorem xBin_ok {op : BinOp}{kd : Kd}{a b r : Value}{cs : List Prop}{C : Value → Prop} (h : xBin op kd a b = some (cs,r)) (hc : AllP cs) (k : C r) : stepBin op kd C a b := by
  unfold xBin at h
  split at h
  · rename_i k1 x k2 y
    split at h
    · cases h
    · rename_i hk
      have hk := of_decide_eq_true hk
      subst hk
      split at h
      · cases h; exact ⟨rfl,k⟩
      · cases h; exact ⟨rfl,k⟩
      · cases h; exact ⟨rfl,k⟩
      · cases h; exact ⟨rfl,k⟩
      · cases h; exact ⟨rfl,k⟩
      · cases h; exact ⟨rfl,k⟩
      · split at h
        · rename_i he; have he := of_decide_eq_true he; subst he; cases h; exact ⟨rfl,by rw [wrap_i64 hc.1]; exact k⟩
        · cases h
      · split at h
        · rename_i he; have he := of_decide_eq_true he; subst he; cases h; exact ⟨rfl,by rw [wrap_i64 hc.1]; exact k⟩
        · cases h
      · split at h
        · rename_i he; have he := of_decide_eq_true he; subst he; cases h; exact ⟨rfl,by rw [wrap_i64 hc.1]; exact k⟩
        · cases h
      · cases h
  · split at h
    · cases h; exact k
    · cases h; exact k
    · cases h
  · split at h
    · cases h; exact k
    · cases h; exact k
    · cases h
  · cases h
def ptrB : PV → Bool
  | .ptr ..|.ep ..|.f (.ro _) => true
  | _ => false
theorem ptrB_guess {H : Heap}{e : Nat}{pv : PV} (h : ptrB pv = true) : nilGuess H (.ptr e) pv := by
  cases pv with
  | f z => cases z <;> simp_all [ptrB,nilGuess]
  | _ => simp_all [ptrB,nilGuess]
def xBinOp (tab : Tab) (env : Env) (op : BinOp) (t : Nat) (x y : Operand) : Option (List Prop × PV) :=
  match ev env x with
  | some (.f (.v a)) => (match ev env y with
    | some (.f (.v b)) => (xBin op ((tab t).elim .other (·.kd)) a b).map fun p => (p.1,.f (.v p.2))
    | _ => none)
  | some pv => (match ptrB pv with
    | true => (match tab t with
      | some i => (match i.kd with
        | .ptr e => (match y with
          | .const (.pointer none) => (match op with
            | .eql => some ([],.f (.v (.bool false)))
            | .neq => some ([],.f (.v (.bool true)))
            | _ => none)
          | _ => none)
        | _ => none)
      | none => none)
    | false => none)
  | none => none
def szOk (i : TI) : Bool := i.kd.agg || Nat.beq i.size 1
theorem szOk_of {i : TI} (h : szOk i = true) : i.kd.agg = false → i.size = 1 := by
  intro h0
  unfold szOk at h
  rw [h0,Bool.false_or] at h
  exact Nat.eq_of_beq_eq_true h
def xLoad (tab : Tab) (env : Env) (H : Heap) (t : Nat) (x : Operand) : Option PV :=
  match tab t with
  | none => none
  | some i => match szOk i with
    | false => none
    | true => match ev env x with
      | some (.ptr n off) => (match look H n with
        | some (.obj cs) => (match Nat.ble (off + i.size) cs.length with
          | true => some (if i.kd.agg then mkAgg ((cs.drop off).take i.size) else (cs.drop off).headD (.f (.v undef)))
          | false => none)
        | _ => none)
      | some (.f (.ro (.agg cs))) => (match i.kd.agg && Nat.beq cs.length i.size with|true => some (.f (.agg cs))|false => none)
      | some (.f (.ro (.v a))) => (match i.kd.agg with|false => some (.f (.v a))|true => none)
      | some (.f (.ro (.sl a b c))) => (match i.kd.agg with|false => some (.f (.sl a b c))|true => none)
      | some (.f (.ro (.ro y))) => (match i.kd.agg with|false => some (.f (.ro y))|true => none)
      | _ => none
theorem xLoad_ok {tab : Tab}{env : Env}{H : Heap}{nx : Nat}{K : PV → Nat → Heap → Prop}{t : Nat}{x : Operand}{v : PV} (h : xLoad tab env H t x = some v) (k : K v nx H) : stepLoad tab env H nx K t x := by
  unfold xLoad at h
  split at h
  · cases h
  · rename_i i hi
    split at h
    · cases h
    · rename_i hz
      have hz := szOk_of hz
      refine ⟨i,hi,hz, ?_⟩
      split at h
      · rename_i n off he
        split at h
        · rename_i cs hl
          split at h
          · rename_i hb
            cases h
            exact .inl ⟨n,off,cs,he,hl,Nat.le_of_ble_eq_true hb,k⟩
          · cases h
        · cases h
      · rename_i cs he
        split at h
        · rename_i hb
          rw [Bool.and_eq_true] at hb
          cases h
          exact .inr (.inl ⟨.agg cs,he,Nat.eq_of_beq_eq_true hb.2,fun _ => rfl,fun h0 => (by rw [hb.1] at h0; cases h0),k⟩)
        · cases h
      · rename_i a he
        split at h
        · rename_i hb; cases h; exact .inr (.inl ⟨_,he,(hz hb).symm,fun h0 => (by rw [hb] at h0; cases h0),fun _ => rfl,k⟩)
        · cases h
      · rename_i a b d he
        split at h
        · rename_i hb; cases h; exact .inr (.inl ⟨_,he,(hz hb).symm,fun h0 => (by rw [hb] at h0; cases h0),fun _ => rfl,k⟩)
        · cases h
      · rename_i y he
        split at h
        · rename_i hb; cases h; exact .inr (.inl ⟨_,he,(hz hb).symm,fun h0 => (by rw [hb] at h0; cases h0),fun _ => rfl,k⟩)
        · cases h
      · cases h
def xFieldAddr (tab : Tab) (env : Env) (s : Nat) (x : Operand) (q : Nat) : Option PV :=
  match tab s with
  | some i => (match i.kd with
    | .struct fs => (match fs[q]? with
      | some (off,ft) => (match tab ft with
        | some it => (match szOk it && !(Nat.beq it.size 0) with
          | true => (match ev env x with
            | some (.ptr n o1) => some (.ptr n (o1 + off))
            | some (.ep n j o1) => some (.ep n j (o1 + off))
            | some (.f (.ro (.agg cs))) => (match Nat.ble (off + it.size) cs.length && (it.kd.agg || !(partF false cs off 1).isAgg) with
              | true => some (.f (.ro (partF it.kd.agg cs off it.size)))
              | false => none)
            | _ => none)
          | false => none)
        | none => none)
      | none => none)
    | _ => none)
  | none => none
theorem xFieldAddr_ok {tab : Tab}{env : Env}{H : Heap}{nx : Nat}{K : PV → Nat → Heap → Prop}{s q : Nat}{x : Operand}{v : PV} (h : xFieldAddr tab env s x q = some v) (k : K v nx H) : stepFieldAddr tab env H nx K s x q := by
  unfold xFieldAddr at h
  split at h
  · rename_i i hi
    split at h
    · rename_i fs hfs
      split at h
      · rename_i off ft hf
        split at h
        · rename_i it hit
          split at h
          · rename_i hz
            rw [Bool.and_eq_true] at hz
            have h0 : it.size ≠ 0 := fun e => by rw [e] at hz; simp at hz
            refine ⟨i,fs,off,ft,it,hi,hfs,hf,hit,h0,szOk_of hz.1, ?_⟩
            split at h
            · rename_i n o1 he; cases h; exact .inl ⟨n,o1,he,k⟩
            · rename_i n j o1 he; cases h; exact .inr (.inr ⟨n,j,o1,he,k⟩)
            · rename_i cs he
              split at h
              · rename_i hb
                rw [Bool.and_eq_true] at hb
                cases h
                exact .inr (.inl ⟨cs,he,Nat.le_of_ble_eq_true hb.1,fun ha => (by have := hb.2; rw [ha,Bool.false_or] at this; simpa using this),k⟩)
              · cases h
            · cases h
          · cases h
        · cases h
      · cases h
    · cases h
  · cases h
def xField (tab : Tab) (env : Env) (s : Nat) (x : Operand) (q : Nat) : Option PV :=
  match tab s with
  | some i => (match i.kd with
    | .struct fs => (match fs[q]? with
      | some (off,ft) => (match tab ft with
        | some it => (match szOk it with
          | true => (match ev env x with
            | some (.agg cs) => (match Nat.ble (off + it.size) cs.length with
              | true => some (if it.kd.agg then mkAgg ((cs.drop off).take it.size) else (cs.drop off).headD (.f (.v undef)))
              | false => none)
            | some (.f (.agg cs)) => (match Nat.ble (off + it.size) cs.length with
              | true => some (.f (partF it.kd.agg cs off it.size))
              | false => none)
            | _ => none)
          | false => none)
        | none => none)
      | none => none)
    | _ => none)
  | none => none
theorem xField_ok {tab : Tab}{env : Env}{H : Heap}{nx : Nat}{K : PV → Nat → Heap → Prop}{s q : Nat}{x : Operand}{v : PV} (h : xField tab env s x q = some v) (k : K v nx H) : stepField tab env H nx K s x q := by
  unfold xField at h
  split at h
  · rename_i i hi
    split at h
    · rename_i fs hfs
      split at h
      · rename_i off ft hf
        split at h
        · rename_i it hit
          split at h
          · rename_i hz
            refine ⟨i,fs,off,ft,it,hi,hfs,hf,hit,szOk_of hz, ?_⟩
            split at h
            · rename_i cs he
              split at h
              · rename_i hb; cases h; exact .inl ⟨cs,he,Nat.le_of_ble_eq_true hb,k⟩
              · cases h
            · rename_i cs he
              split at h
              · rename_i hb; cases h; exact .inr ⟨cs,he,Nat.le_of_ble_eq_true hb,k⟩
              · cases h
            · cases h
          · cases h
        · cases h
      · cases h
    · cases h
  · cases h
def xBuildGo (tab : Tab) (env : Env) (fs : List (Nat × Nat)) : List (Nat × Operand) → List PV → Option (List PV)
  | [],cs => some cs
  | (q,x) :: r,cs => match fs[q]? with
    | some (off,ft) => (match tab ft with
      | some it => (match ev env x with
        | some pv => (match pv.storable && (Nat.beq pv.cells.length it.size && Nat.ble (off + it.size) cs.length) with
          | true => xBuildGo tab env fs r (splice cs off pv.cells)
          | false => none)
        | none => none)
      | none => none)
    | none => none
theorem LeP.refl' : ∀ cs : List PV,LeP cs cs
  | [] => trivial
  | x :: t => ⟨le_refl x,LeP.refl' t⟩
theorem xBuildGo_ok {tab : Tab}{env : Env}{fs : List (Nat × Nat)}{C : List PV → Prop} : ∀ {ps : List (Nat × Operand)}{cs ds : List PV},xBuildGo tab env fs ps cs = some ds → C ds → buildP tab env fs C ps cs
  | [],cs,ds,h,k => by cases h; exact ⟨cs,LeP.refl' cs,k⟩
  | (q,x) :: r,cs,ds,h,k => by
    unfold xBuildGo at h
    split at h
    · rename_i off ft hf
      split at h
      · rename_i it hit
        split at h
        · rename_i pv he
          split at h
          · rename_i hb
            rw [Bool.and_eq_true,Bool.and_eq_true] at hb
            exact ⟨off,ft,it,pv,hf,hit,he,hb.1,Nat.eq_of_beq_eq_true hb.2.1,Nat.le_of_ble_eq_true hb.2.2,xBuildGo_ok h k⟩
          · cases h
        · cases h
      · cases h
    · cases h
def xBuild (tab : Tab) (env : Env) (t : Nat) (parts : List (Nat × Operand)) : Option PV :=
  match tab t with
  | some i => (match i.kd with
    | .struct fs => (match fs.all fun p => (tab p.2).isSome with
      | true => (xBuildGo tab env fs parts (i.zero.map fun v => .f (.v v))).map mkAgg
      | false => none)
    | .arr n e => (match tab e with
      | some ie => (xBuildGo tab env ((List.range n).map fun k => (k * ie.size,e)) parts (i.zero.map fun v => .f (.v v))).map mkAgg
      | none => none)
    | _ => none)
  | none => none
theorem xBuild_ok {tab : Tab}{env : Env}{H : Heap}{nx : Nat}{K : PV → Nat → Heap → Prop}{t : Nat}{ps : List (Nat × Operand)}{v : PV} (h : xBuild tab env t ps = some v) (k : K v nx H) : stepBuild tab env H nx K t ps := by
  unfold xBuild at h
  split at h
  · rename_i i hi
    split at h
    · rename_i fs hfs
      split at h
      · rename_i ha
        obtain ⟨ds,h1,rfl⟩ := Option.map_eq_some_iff.1 h
        exact .inl ⟨i,fs,hi,hfs,ha,xBuildGo_ok h1 k⟩
      · cases h
    · rename_i n e hk
      split at h
      · rename_i ie hie
        obtain ⟨ds,h1,rfl⟩ := Option.map_eq_some_iff.1 h
        exact .inr ⟨i,n,e,ie,hi,hk,hie,xBuildGo_ok h1 k⟩
      · cases h
    · cases h
  · cases h
def xPure (tab : Tab) (env : Env) (H : Heap) : Op → Option (List Prop × PV)
  | .move x => (ev env x).map fun v => ([],v)
  | .assign x => (ev env x).map fun v => ([],v)
  | .pick x a b => match ev env x with
    | some (.f (.v (.bool t))) => (match t with|true => (ev env a).map fun v => ([],v)|false => (ev env b).map fun v => ([],v))
    | _ => none
  | .load t x => (xLoad tab env H t x).map fun v => ([],v)
  | .nilCheck x => match ev env x with
    | some pv => (match ptrB pv with|true => some ([],pv)|false => none)
    | none => none
  | .binOp op t x y _ => xBinOp tab env op t x y
  | .unOp op _ x => match op with
    | .not => (match ev env x with|some (.f (.v (.bool b))) => some ([],.f (.v (.bool !b)))|_ => none)
    | _ => none
  | .convert s t x => match tab s with
    | some is => (match tab t with
      | some it => (match it.kd with
        | .int k => (match decide (k = .i64) with
          | true => (match is.kd with
            | .int _ => (match ev env x with
              | some (.f (.v (.int _ a))) => some ([okI a],.f (.v (.int .i64 a)))
              | _ => none)
            | _ => none)
          | false => none)
        | _ => none)
      | none => none)
    | none => none
  | .extract x i => match ev env x with
    | some (.tup xs) => (xs[i]?).map fun v => ([],v)
    | _ => none
  | .fieldAddr s x q => (xFieldAddr tab env s x q).map fun v => ([],v)
  | .field s x q => (xField tab env s x q).map fun v => ([],v)
  | .build t ps => (xBuild tab env t ps.toList).map fun v => ([],v)
  | _ => none
theorem xPure_ok {P : Program}{tab : Tab}{env : Env}{H : Heap}{nx : Nat}{K : PV → Nat → Heap → Prop}{op : Op}{cs : List Prop}{v : PV} (h : xPure tab env H op = some (cs,v)) (hc : AllP cs) (k : K v nx H) : stepOp P tab env nx H K op := by
  unfold xPure at h
  split at h
  · obtain ⟨pv,h1,h2⟩ := Option.map_eq_some_iff.1 h; cases h2; exact ⟨_,h1,k⟩
  · obtain ⟨pv,h1,h2⟩ := Option.map_eq_some_iff.1 h; cases h2; exact ⟨_,h1,k⟩
  · split at h
    · rename_i t he
      split at h
      · obtain ⟨pv,h1,h2⟩ := Option.map_eq_some_iff.1 h; cases h2; exact ⟨true,he,fun _ => ⟨_,h1,k⟩,fun e => (by cases e)⟩
      · obtain ⟨pv,h1,h2⟩ := Option.map_eq_some_iff.1 h; cases h2; exact ⟨false,he,fun e => (by cases e),fun _ => ⟨_,h1,k⟩⟩
    · cases h
  · obtain ⟨pv,h1,h2⟩ := Option.map_eq_some_iff.1 h; cases h2; exact xLoad_ok h1 k
  · split at h
    · rename_i pv he
      split at h
      · rename_i hp; cases h
        refine ⟨_,he, ?_,k⟩
        cases v with
        | f z => cases z <;> first|exact trivial|(simp [ptrB] at hp)
        | ptr n o => exact trivial
        | ep n i o => exact trivial
        | _ => simp [ptrB] at hp
      · cases h
    · cases h
  · rename_i op t x y u
    unfold xBinOp at h
    split at h
    · rename_i a he
      split at h
      · rename_i b he2
        obtain ⟨p,h1,h2⟩ := Option.map_eq_some_iff.1 h
        obtain ⟨p1,p2⟩ := p
        cases h2
        exact .inl ⟨a,b,he,he2,xBin_ok h1 hc k⟩
      · cases h
    · rename_i pv hne he
      split at h
      · rename_i hp
        split at h
        · rename_i i hi
          split at h
          · rename_i e hk
            split at h
            · split at h
              · cases h; exact s_ptrnil hi hk he (ptrB_guess hp) k
              · cases h; exact s_ptrnot hi hk he (ptrB_guess hp) k
              · cases h
            · cases h
          · cases h
        · cases h
      · cases h
    · cases h
  · split at h
    · split at h
      · rename_i b he; cases h; exact ⟨_,he,k⟩
      · cases h
    · cases h
  · split at h
    · rename_i is his
      split at h
      · rename_i it hit
        split at h
        · rename_i k0 hk
          split at h
          · rename_i hd
            have hd := of_decide_eq_true hd
            subst hd
            split at h
            · rename_i k2 hk2
              split at h
              · rename_i k3 a he
                cases h
                exact .inl ⟨is,it,his,hit,.inl ⟨.i64,k3,a,hk,he,⟨k2,hk2⟩,by rw [wrap_i64 hc.1]; exact k⟩⟩
              · cases h
            · cases h
          · cases h
        · cases h
      · cases h
    · cases h
  · split at h
    · rename_i xs he
      obtain ⟨pv,h1,h2⟩ := Option.map_eq_some_iff.1 h; cases h2; exact ⟨xs,_,he,h1,k⟩
    · cases h
  · obtain ⟨pv,h1,h2⟩ := Option.map_eq_some_iff.1 h; cases h2; exact xFieldAddr_ok h1 k
  · obtain ⟨pv,h1,h2⟩ := Option.map_eq_some_iff.1 h; cases h2; exact xField_ok h1 k
  · obtain ⟨pv,h1,h2⟩ := Option.map_eq_some_iff.1 h; cases h2; exact xBuild_ok h1 k
  · cases h
def xMem (tab : Tab) (env : Env) (nx : Nat) (H : Heap) : Op → Option (PV × Nat × Heap)
  | .alloc e => (tab e).map fun i => (.ptr nx 0,nx + 1,(nx,.obj (i.zero.map fun v => .f (.v v))) :: H)
  | .box _ x => match ev env x with
    | some pv => (match pv.storable with|true => some (.ptr nx 0,nx + 1,(nx,.obj pv.cells) :: H)|false => none)
    | none => none
  | .store t x y => match tab t with
    | some i => (match ev env y with
      | some pv => (match pv.storable && Nat.beq pv.cells.length i.size with
        | true => (match ev env x with
          | some (.ptr n off) => (match look H n with
            | some (.obj cs) => (match Nat.ble (off + i.size) cs.length with
              | true => some (.f (.v undef),nx,hput H n (.obj (splice cs off pv.cells)))
              | false => none)
            | _ => none)
          | _ => none)
        | false => none)
      | none => none)
    | none => none
  | _ => none
theorem xMem_ok {P : Program}{tab : Tab}{env : Env}{H H' : Heap}{nx nx' : Nat}{K : PV → Nat → Heap → Prop}{op : Op}{v : PV} (h : xMem tab env nx H op = some (v,nx',H')) (k : K v nx' H') : stepOp P tab env nx H K op := by
  unfold xMem at h
  split at h
  · obtain ⟨i,h1,h2⟩ := Option.map_eq_some_iff.1 h; cases h2; exact ⟨i,h1,k⟩
  · split at h
    · rename_i pv he
      split at h
      · rename_i hs; cases h; exact ⟨pv,he,hs,k⟩
      · cases h
    · cases h
  · split at h
    · rename_i i hi
      split at h
      · rename_i pv he
        split at h
        · rename_i hb
          rw [Bool.and_eq_true] at hb
          split at h
          · rename_i n off hx
            split at h
            · rename_i cs hl
              split at h
              · rename_i hle; cases h
                exact ⟨i,pv,hi,he,hb.1,Nat.eq_of_beq_eq_true hb.2,.inl ⟨n,off,cs,hx,hl,Nat.le_of_ble_eq_true hle,k⟩⟩
              · cases h
            · cases h
          · cases h
        · cases h
      · cases h
    · cases h
  · cases h
def xOp (m : Bool) (tab : Tab) (env : Env) (nx : Nat) (H : Heap) (op : Op) : Option (List Prop × PV × Nat × Heap) :=
  match xPure tab env H op with
  | some (cs,v) => some (cs,v,nx,H)
  | none => match m with
    | true => (xMem tab env nx H op).map fun r => ([],r)
    | false => none
theorem xOp_ok {P : Program}{m : Bool}{tab : Tab}{env : Env}{H H' : Heap}{nx nx' : Nat}{K : PV → Nat → Heap → Prop}{op : Op}{cs : List Prop}{v : PV} (h : xOp m tab env nx H op = some (cs,v,nx',H')) (hc : AllP cs) (k : K v nx' H') : stepOp P tab env nx H K op := by
  unfold xOp at h
  split at h
  · rename_i cs0 v0 h0; cases h; exact xPure_ok h0 hc k
  · split at h
    · obtain ⟨⟨v1,n1,H1⟩,h1,h2⟩ := Option.map_eq_some_iff.1 h; cases h2; exact xMem_ok h1 k
    · cases h
theorem xOp_pure {tab : Tab}{env : Env}{H H' : Heap}{nx nx' : Nat}{op : Op}{cs : List Prop}{v : PV} (h : xOp false tab env nx H op = some (cs,v,nx',H')) : nx' = nx ∧ H' = H := by
  unfold xOp at h
  split at h
  · cases h; exact ⟨rfl,rfl⟩
  · cases h
def gst (ops : Array Oper) (env : Env) (g : Option (Nat × Bool)) : Option Bool :=
  match g with
  | none => some true
  | some (j,want) => match (ops[j]?).bind (·.dst) with
    | some d => (match look env d with
      | some (.f (.v v)) => (match vb v with|some b => some (b == want)|none => some false)
      | _ => none)
    | none => none
def xStep (m : Bool) (tab : Tab) (nt : Nat) (ops : Array Oper) (o : Oper) (env : Env) (nx : Nat) (H : Heap) : Option (List Prop × Env × Nat × Heap) :=
  match dstOk nt o.dst with
  | false => none
  | true => match gst ops env o.guard with
    | some true => (match xOp m tab env nx H o.op with
      | some (cs,v,nx',H') => some (cs,putE o.dst v env,nx',H')
      | none => none)
    | some false => some ([],dropE o.dst env,nx,H)
    | none => none
section
variable {P : Program}{tab : Tab}{c : Ctx}{ops : Array Oper}{nt : Nat}{Q : Post}
theorem xStep_ok (ht : TabOk P tab) (hnt : c.nt = nt) {m : Bool}{o : Oper}{rest : List Oper}{env env' : Env}{nx nx' : Nat}{H H' : Heap}{cs : List Prop} (h : xStep m tab nt ops o env nx H = some (cs,env',nx',H')) (hc : AllP cs) (k : R P c ops rest env' nx' H' Q) :
    R P c ops (o :: rest) env nx H Q := by
  obtain ⟨dst,op,ty,p,a,g⟩ := o
  unfold xStep at h
  split at h
  · cases h
  · rename_i hd
    have run : ∀ {cs v nx1 H1},xOp m tab env nx H op = some (cs,v,nx1,H1) → AllP cs → R P c ops rest (putE dst v env) nx1 H1 Q → R P c ops (⟨dst,op,ty,p,a,none⟩ :: rest) env nx H Q :=
      fun h0 h1 h2 => r_op ht hnt hd (xOp_ok h0 h1 h2)
    split at h
    · rename_i hg
      split at h
      · rename_i cs0 v0 n0 H0 h0
        cases h
        cases g with
        | none => exact run h0 hc k
        | some g =>
          obtain ⟨j,want⟩ := g
          simp only [gst] at hg
          split at hg
          · rename_i d hj
            split at hg
            · rename_i v hl
              split at hg
              · rename_i b hb
                simp only [Option.some.injEq,beq_iff_eq] at hg
                exact r_gd ht hnt hj hl hd (fun _ => run h0 hc k) (fun e => absurd (by rw [hb,hg]) e)
              · cases hg
            · cases hg
          · cases hg
      · cases h
    · rename_i hg
      cases h
      cases g with
      | none => cases hg
      | some g =>
        obtain ⟨j,want⟩ := g
        simp only [gst] at hg
        split at hg
        · rename_i d hj
          split at hg
          · rename_i v hl
            split at hg
            · rename_i b hb
              simp only [Option.some.injEq,beq_eq_false_iff_ne] at hg
              exact r_gd ht hnt hj hl hd (fun e => by rw [hb] at e; exact absurd (Option.some.inj e) hg) (fun _ => k)
            · rename_i hb
              exact r_gd ht hnt hj hl hd (fun e => by rw [hb] at e; cases e) (fun _ => k)
          · cases hg
        · cases hg
    · cases h
end
def xClaim (P : Program) (tab : Tab) (env : Env) (H : Heap) (v : PV) : Op → Option (List Prop)
  | .call { callee := .value f,args,argTypes := _ } => (match ev env f with
    | some (.clo (.func g) []) => (match evs env args.toList with
      | some ps => (match ps.all isF && has (fun _ => false) v with
        | true => some [T P g ps 0 [] (Ret v 0 [])]
        | false => none)
      | none => none)
    | _ => none)
  | .call { callee := .builtin b,args,argTypes } => (match b,args.toList,argTypes.toList with
    | .len,[x],[t] => (match tab t with
      | some i => (match i.kd with
        | .slice _ => (match v with
          | .f (.v (.int .i64 m)) => (match ev env x with
            | some (.f (.sl _ _ l)) => some [((l.length : Nat) : Int) = m]
            | some (.ref n lo hi) => (match look H n with
              | some (.buf _ _ l) => some [(((view lo hi l).length : Nat) : Int) = m]
              | _ => none)
            | _ => none)
          | _ => none)
        | _ => none)
      | none => none)
    | _,_,_ => none)
  | .binOp op _ x y _ => (match ev env x with
    | some (.f (.v (.int k a))) => (match ev env y with
      | some (.f (.v (.int k' b))) => (match decide (k = k') with
        | true => (match v with
          | .f (.v (.bool r)) => (match op with
            | .eql => some [decide (a = b) = r]
            | .neq => some [(!decide (a = b)) = r]
            | _ => none)
          | _ => none)
        | false => none)
      | _ => none)
    | _ => none)
  | _ => none
theorem xClaim_ok {P : Program}{tab : Tab}{env : Env}{nx : Nat}{H : Heap}{K : PV → Nat → Heap → Prop}{v : PV}{op : Op}{cs : List Prop} (h : xClaim P tab env H v op = some cs) (hc : AllP cs) (k : K v nx H) : stepOp P tab env nx H K op := by
  unfold xClaim at h
  split at h
  · split at h
    · rename_i g he
      split at h
      · rename_i ps hps
        split at h
        · rename_i hb
          rw [Bool.and_eq_true] at hb
          cases h
          exact s_callF he hps hb.1 hc.1 hb.2 k
        · cases h
      · cases h
    · cases h
  · rename_i b args argTypes
    split at h
    · rename_i x t ha htt
      split at h
      · rename_i i hi
        split at h
        · rename_i e hk
          split at h
          · rename_i m
            split at h
            · rename_i sz cl l he
              cases h
              show stepOp P tab env nx H K (.call { callee := .builtin .len,args := args,argTypes := argTypes })
              rw [show args = #[x] from toArr ha,show argTypes = #[t] from toArr htt]
              exact ⟨i,hi,.inl ⟨e,sz,l,hk,.inl ⟨cl,he⟩,by rw [hc.1]; exact k⟩⟩
            · rename_i n lo hi he
              split at h
              · rename_i wr sz l hl
                cases h
                rw [show args = #[x] from toArr ha,show argTypes = #[t] from toArr htt]
                exact ⟨i,‹_›,.inl ⟨e,sz,view lo hi l,hk,.inr (.inr ⟨n,lo,hi,wr,l,he,hl,rfl⟩),by rw [hc.1]; exact k⟩⟩
              · cases h
            · cases h
          · cases h
        · cases h
      · cases h
    · cases h
  · rename_i op t x y u
    split at h
    · rename_i k1 a he
      split at h
      · rename_i k2 b he2
        split at h
        · rename_i hk
          have hk := of_decide_eq_true hk
          split at h
          · rename_i r
            split at h
            · cases h; exact .inl ⟨_,_,he,he2,⟨hk,by rw [hc.1]; exact k⟩⟩
            · cases h; exact .inl ⟨_,_,he,he2,⟨hk,by rw [hc.1]; exact k⟩⟩
            · cases h
          · cases h
        · cases h
      · cases h
    · cases h
  · cases h
def xStepC (P : Program) (tab : Tab) (nt : Nat) (ops : Array Oper) (v : PV) (o : Oper) (env : Env) (H : Heap) : Option (List Prop × Env) :=
  match dstOk nt o.dst with
  | false => none
  | true => match gst ops env o.guard with
    | some true => (match xClaim P tab env H v o.op with
      | some cs => some (cs,putE o.dst v env)
      | none => none)
    | _ => none
theorem run_gst {P : Program}{tab : Tab}{c : Ctx}{ops : Array Oper}{nt : Nat}{Q : Post} (ht : TabOk P tab) (hnt : c.nt = nt) {dst : Option Nat}{op : Op}{ty : Nat}{p : String}{a : Array Edge}{g : Option (Nat × Bool)}{rest : List Oper}{env : Env}{nx : Nat}{H : Heap} (hd : dstOk nt dst = true) (hg : gst ops env g = some true)
    (k : R P c ops (⟨dst,op,ty,p,a,none⟩ :: rest) env nx H Q) : R P c ops (⟨dst,op,ty,p,a,g⟩ :: rest) env nx H Q := by
  cases g with
  | none => exact k
  | some g =>
    obtain ⟨j,want⟩ := g
    simp only [gst] at hg
    split at hg
    · rename_i d hj
      split at hg
      · rename_i v hl
        split at hg
        · rename_i b hb
          simp only [Option.some.injEq,beq_iff_eq] at hg
          exact r_gd ht hnt hj hl hd (fun _ => k) (fun e => absurd (by rw [hb,hg]) e)
        · cases hg
      · cases hg
    · cases hg
theorem xStepC_ok {P : Program}{tab : Tab}{c : Ctx}{ops : Array Oper}{nt : Nat}{Q : Post} (ht : TabOk P tab) (hnt : c.nt = nt) {v : PV}{o : Oper}{rest : List Oper}{env env' : Env}{nx : Nat}{H : Heap}{cs : List Prop} (h : xStepC P tab nt ops v o env H = some (cs,env')) (hc : AllP cs) (k : R P c ops rest env' nx H Q) :
    R P c ops (o :: rest) env nx H Q := by
  obtain ⟨dst,op,ty,p,a,g⟩ := o
  unfold xStepC at h
  split at h
  · cases h
  · rename_i hd
    split at h
    · rename_i hg
      split at h
      · rename_i cs0 h0
        cases h
        exact run_gst ht hnt hd hg (r_op ht hnt hd (xClaim_ok h0 hc k))
      · cases h
    · cases h
theorem xStepC_look {P : Program}{tab : Tab}{nt : Nat}{ops : Array Oper}{v : PV}{o : Oper}{env env' : Env}{H : Heap}{cs : List Prop} (h : xStepC P tab nt ops v o env H = some (cs,env')) {k : Nat} (hk : o.dst ≠ some k) : look env' k = look env k := by
  unfold xStepC at h
  split at h
  · cases h
  · split at h
    · split at h
      · cases h; rw [look_putE,if_neg hk]
      · cases h
    · cases h
def dsts (l : List Oper) : List Nat := l.filterMap (·.dst)
def dropEs : Env → List Nat → Env
  | e,[] => e
  | e,n :: t => dropEs (drop e n) t
def xPick (want : Bool) (d : Nat) (po : Oper) (b : Bool) (e1 e2 : Env) : Option (Nat × PV) :=
  match po.dst with
  | none => none
  | some pd => match po.guard with
    | some _ => none
    | none => match po.op with
      | .pick (.tmp d') x y => (match Nat.beq d' d with
        | false => none
        | true => (match want with
          | true => (match y with
            | .const (.bool false) => (match ev e1 x with
              | some (.f (.v (.bool u))) => some (pd,.f (.v (.bool (b && u))))
              | _ => none)
            | _ => none)
          | false => (match x with
            | .const (.bool true) => (match ev e1 y with
              | some (.f (.v (.bool u))) => some (pd,.f (.v (.bool (b || u))))
              | _ => none)
            | _ => none)))
      | _ => none
def impP (p : Prop) : List Prop → List Prop
  | [] => []
  | c :: cs => [p → AllP (c :: cs)]
theorem impP_of {p : Prop}{cs : List Prop} (h : AllP (impP p cs)) (hp : p) : AllP cs := by
  cases cs with
  | nil => trivial
  | cons c cs => exact h.1 hp
def xGo (P : Program) (m : Bool) (tab : Tab) (nt : Nat) (ops : Array Oper) : Nat → List XA → List Oper → Env → Nat → Heap → Option (List Prop × Env × Nat × Heap)
  | 0,_,_,_,_,_ => none
  | f + 1,[],l,env,nx,H => match l with|[] => some ([],env,nx,H)|_ => none
  | f + 1,.o 0 :: us,l,env,nx,H => xGo P m tab nt ops f us l env nx H
  | f + 1,.o (n + 1) :: us,l,env,nx,H => match l with
    | [] => none
    | o :: l => match xStep m tab nt ops o env nx H with
      | some (cs,env',nx',H') => (match xGo P m tab nt ops f (.o n :: us) l env' nx' H' with
        | some (cs2,r) => some (cs ++ cs2,r)
        | none => none)
      | none => none
  | f + 1,.c v :: us,l,env,nx,H => match l with
    | [] => none
    | o :: l => match xStepC P tab nt ops v o env H with
      | some (cs,env') => (match xGo P m tab nt ops f us l env' nx H with
        | some (cs2,r) => some (cs ++ cs2,r)
        | none => none)
      | none => none
  | f + 1,.b n bs :: us,l,env,nx,H => match l with
    | [] => none
    | o :: l' => match o.guard with
      | none => none
      | some (j,want) => match (ops[j]?).bind (·.dst) with
        | none => none
        | some d => match look env d with
          | some (.f (.v (.bool b))) => (match xGo P false tab nt ops f bs ((o :: l').take n) ((d,.f (.v (.bool want))) :: env) nx H with
            | some (cs1,e1,_,_) => (match xGo P false tab nt ops f [.o n] ((o :: l').take n) ((d,.f (.v (.bool !want))) :: env) nx H with
              | some (cs2,e2,_,_) => (match (o :: l').drop n with
                | po :: l2 => (match dstOk nt po.dst with
                  | false => none
                  | true => (match xPick want d po b e1 e2 with
                    | some (pd,pv) => (match decide (d ∈ dsts ((o :: l').take n)) || decide (pd ∈ dsts ((o :: l').take n)) with
                      | true => none
                      | false => (match xGo P m tab nt ops f us l2 ((pd,pv) :: dropEs env (dsts ((o :: l').take n))) nx H with
                        | some (cs3,r) => some (impP (b = want) cs1 ++ (impP (b = !want) cs2 ++ cs3),r)
                        | none => none))
                    | none => none))
                | [] => none)
              | none => none)
            | none => none)
          | _ => none
theorem look_dropEs {ds : List Nat} : ∀ {e : Env}{k : Nat},look (dropEs e ds) k = if k ∈ ds then none else look e k := by
  induction ds with
  | nil => intro e k; simp [dropEs]
  | cons n t ih =>
    intro e k
    rw [dropEs,ih]
    by_cases h : k = n
    · subst h; simp [look_drop_same]
    · rw [look_drop_ne _ (fun e => h e.symm)]; simp [h]
theorem dsts_append (a b : List Oper) : dsts (a ++ b) = dsts a ++ dsts b := by unfold dsts; rw [List.filterMap_append]
theorem dsts_cons_some {o : Oper}{l : List Oper}{d : Nat} (h : o.dst = some d) : dsts (o :: l) = d :: dsts l := by unfold dsts; rw [List.filterMap_cons,h]
theorem xStep_look {m : Bool}{tab : Tab}{nt : Nat}{ops : Array Oper}{o : Oper}{env env' : Env}{nx nx' : Nat}{H H' : Heap}{cs : List Prop} (h : xStep m tab nt ops o env nx H = some (cs,env',nx',H')) {k : Nat} (hk : o.dst ≠ some k) : look env' k = look env k := by
  unfold xStep at h
  split at h
  · cases h
  · split at h
    · split at h
      · cases h; rw [look_putE,if_neg hk]
      · cases h
    · cases h; rw [look_dropE,if_neg hk]
    · cases h
theorem xStep_pure {tab : Tab}{nt : Nat}{ops : Array Oper}{o : Oper}{env env' : Env}{nx nx' : Nat}{H H' : Heap}{cs : List Prop} (h : xStep false tab nt ops o env nx H = some (cs,env',nx',H')) : nx' = nx ∧ H' = H := by
  unfold xStep at h
  split at h
  · cases h
  · split at h
    · split at h
      · rename_i h0; cases h; exact xOp_pure h0
      · cases h
    · cases h; exact ⟨rfl,rfl⟩
    · cases h
theorem xGo_b {P : Program}{m : Bool}{tab : Tab}{nt : Nat}{ops : Array Oper}{f n : Nat}{bs us : List XA}{l : List Oper}{env env' : Env}{nx nx' : Nat}{H H' : Heap}{cs : List Prop} (h : xGo P m tab nt ops (f + 1) (.b n bs :: us) l env nx H = some (cs,env',nx',H')) :
    ∃ d b want cs1 e1 n1 H1 cs2 e2 n2 H2 po l2 pd pv cs3,look env d = some (.f (.v (.bool b))) ∧ xGo P false tab nt ops f bs (l.take n) ((d,.f (.v (.bool want))) :: env) nx H = some (cs1,e1,n1,H1) ∧
      xGo P false tab nt ops f [.o n] (l.take n) ((d,.f (.v (.bool !want))) :: env) nx H = some (cs2,e2,n2,H2) ∧ l.drop n = po :: l2 ∧ dstOk nt po.dst = true ∧ xPick want d po b e1 e2 = some (pd,pv) ∧
      d ∉ dsts (l.take n) ∧ pd ∉ dsts (l.take n) ∧ xGo P m tab nt ops f us l2 ((pd,pv) :: dropEs env (dsts (l.take n))) nx H = some (cs3,env',nx',H') ∧ cs = impP (b = want) cs1 ++ (impP (b = !want) cs2 ++ cs3) := by
  unfold xGo at h
  split at h
  · cases h
  · rename_i o l'
    split at h
    · cases h
    · rename_i j want hg
      split at h
      · cases h
      · rename_i d hd
        split at h
        · rename_i b hl
          split at h
          · rename_i cs1 e1 n1 H1 r1
            split at h
            · rename_i cs2 e2 n2 H2 r2
              split at h
              · rename_i po l2 hdr
                split at h
                · cases h
                · rename_i hok
                  split at h
                  · rename_i pd pv hp
                    split at h
                    · cases h
                    · rename_i hnd
                      rw [Bool.or_eq_false_iff] at hnd
                      split at h
                      · rename_i cs3 r hr
                        cases h
                        exact ⟨d,b,want,cs1,e1,n1,H1,cs2,e2,n2,H2,po,l2,pd,pv,cs3,hl,r1,r2,hdr,hok,hp,of_decide_eq_false hnd.1,of_decide_eq_false hnd.2,hr,rfl⟩
                      · cases h
                  · cases h
              · cases h
            · cases h
          · cases h
        · cases h
theorem xGo_pure {P : Program}{tab : Tab}{nt : Nat}{ops : Array Oper} : ∀ {f : Nat}{us : List XA}{l : List Oper}{env env' : Env}{nx nx' : Nat}{H H' : Heap}{cs : List Prop},xGo P false tab nt ops f us l env nx H = some (cs,env',nx',H') → nx' = nx ∧ H' = H
  | 0,_,_,_,_,_,_,_,_,_,h => by simp [xGo] at h
  | f + 1,[],l,_,_,_,_,_,_,_,h => by
    unfold xGo at h
    split at h
    · cases h; exact ⟨rfl,rfl⟩
    · cases h
  | f + 1,.o 0 :: us,l,_,_,_,_,_,_,_,h => by unfold xGo at h; exact xGo_pure h
  | f + 1,.o (n + 1) :: us,l,env,_,nx,_,H,_,_,h => by
    unfold xGo at h
    split at h
    · cases h
    · split at h
      · rename_i cs0 e0 n0 H0 h0
        split at h
        · rename_i cs2 r h2
          cases h
          obtain ⟨a1,a2⟩ := xStep_pure h0
          obtain ⟨b1,b2⟩ := xGo_pure h2
          exact ⟨b1.trans a1,b2.trans a2⟩
        · cases h
      · cases h
  | f + 1,.c v :: us,l,env,_,nx,_,H,_,_,h => by
    unfold xGo at h
    split at h
    · cases h
    · split at h
      · rename_i cs0 e0 h0
        split at h
        · rename_i cs2 r h2; cases h; exact xGo_pure h2
        · cases h
      · cases h
  | f + 1,.b n bs :: us,l,_,_,_,_,_,_,_,h => by
    obtain ⟨d,b,want,cs1,e1,n1,H1,cs2,e2,n2,H2,po,l2,pd,pv,cs3,_,_,_,_,_,_,_,_,hr,_⟩ := xGo_b h
    exact xGo_pure hr
theorem xGo_look {P : Program}{m : Bool}{tab : Tab}{nt : Nat}{ops : Array Oper} : ∀ {f : Nat}{us : List XA}{l : List Oper}{env env' : Env}{nx nx' : Nat}{H H' : Heap}{cs : List Prop},xGo P m tab nt ops f us l env nx H = some (cs,env',nx',H') → ∀ k,k ∉ dsts l → look env' k = look env k
  | 0,_,_,_,_,_,_,_,_,_,h,_,_ => by simp [xGo] at h
  | f + 1,[],l,_,_,_,_,_,_,_,h,k,hk => by
    unfold xGo at h
    split at h
    · cases h; rfl
    · cases h
  | f + 1,.o 0 :: us,l,_,_,_,_,_,_,_,h,k,hk => by unfold xGo at h; exact xGo_look h k hk
  | f + 1,.o (n + 1) :: us,l,env,_,nx,_,H,_,_,h,k,hk => by
    unfold xGo at h
    split at h
    · cases h
    · rename_i o l
      split at h
      · rename_i cs0 e0 n0 H0 h0
        split at h
        · rename_i cs2 r h2
          cases h
          have hne : o.dst ≠ some k := fun e => hk (by rw [dsts_cons_some e]; exact List.mem_cons_self)
          have hk2 : k ∉ dsts l := fun hm => hk (by
            cases e : o.dst with
            | none => unfold dsts; rw [List.filterMap_cons,e]; exact hm
            | some q => rw [dsts_cons_some e]; exact List.mem_cons_of_mem _ hm)
          rw [xGo_look h2 k hk2,xStep_look h0 hne]
        · cases h
      · cases h
  | f + 1,.c v :: us,l,env,_,nx,_,H,_,_,h,k,hk => by
    unfold xGo at h
    split at h
    · cases h
    · rename_i o l
      split at h
      · rename_i cs0 e0 h0
        split at h
        · rename_i cs2 r h2
          cases h
          have hne : o.dst ≠ some k := fun e => hk (by rw [dsts_cons_some e]; exact List.mem_cons_self)
          have hk2 : k ∉ dsts l := fun hm => hk (by
            cases e : o.dst with
            | none => unfold dsts; rw [List.filterMap_cons,e]; exact hm
            | some q => rw [dsts_cons_some e]; exact List.mem_cons_of_mem _ hm)
          rw [xGo_look h2 k hk2,xStepC_look h0 hne]
        · cases h
      · cases h
  | f + 1,.b n bs :: us,l,env,_,_,_,_,_,_,h,k,hk => by
    obtain ⟨d,b,want,cs1,e1,n1,H1,cs2,e2,n2,H2,po,l2,pd,pv,cs3,_,_,_,hdr,_,hp,_,_,hr,_⟩ := xGo_b h
    have hl : l = l.take n ++ (po :: l2) := by rw [← hdr,List.take_append_drop]
    rw [hl,dsts_append] at hk
    have hk1 : k ∉ dsts (l.take n) := fun hm => hk (List.mem_append_left _ hm)
    have hpo : po.dst = some pd := by
      unfold xPick at hp
      split at hp
      · cases hp
      · rename_i q hq
        split at hp
        · cases hp
        · split at hp
          · split at hp
            · cases hp
            · split at hp
              · split at hp
                · split at hp
                  · cases hp; exact hq
                  · cases hp
                · cases hp
              · split at hp
                · split at hp
                  · cases hp; exact hq
                  · cases hp
                · cases hp
          · cases hp
    rw [dsts_cons_some hpo] at hk
    have hk2 : k ≠ pd := fun e => hk (by rw [e]; exact List.mem_append_right _ List.mem_cons_self)
    have hk3 : k ∉ dsts l2 := fun hm => hk (List.mem_append_right _ (List.mem_cons_of_mem _ hm))
    rw [xGo_look hr k hk3,look_cons_ne _ _ (fun e => hk2 e.symm),look_dropEs,if_neg hk1]
section
variable {P : Program}{tab : Tab}{c : Ctx}{ops : Array Oper}{nt : Nat}
theorem r_sub {Q : Post}{l : List Oper}{E env : Env}{nx : Nat}{H : Heap} (he : ∀ k p,look E k = some p → look env k = some p) (h : R P c ops l E nx H Q) : R P c ops l env nx H Q :=
  fun φ tmps w hs => h φ tmps w { hs with env := fun k p hk => hs.env k p (he k p hk) }
theorem xGo_ok (ht : TabOk P tab) (hnt : c.nt = nt) : ∀ {f : Nat}{m : Bool}{us : List XA}{l : List Oper}{env env' : Env}{nx nx' : Nat}{H H' : Heap}{cs : List Prop}{Q : Post},
    xGo P m tab nt ops f us l env nx H = some (cs,env',nx',H') → AllP cs → R P c ops [] env' nx' H' Q → R P c ops l env nx H Q
  | 0,_,_,_,_,_,_,_,_,_,_,_,h,_,_ => by simp [xGo] at h
  | f + 1,_,[],l,_,_,_,_,_,_,_,_,h,hc,k => by
    unfold xGo at h
    split at h
    · cases h; exact k
    · cases h
  | f + 1,_,.o 0 :: us,l,_,_,_,_,_,_,_,_,h,hc,k => by unfold xGo at h; exact xGo_ok ht hnt h hc k
  | f + 1,_,.o (n + 1) :: us,l,env,_,nx,_,H,_,_,_,h,hc,k => by
    unfold xGo at h
    split at h
    · cases h
    · split at h
      · rename_i cs0 e0 n0 H0 h0
        split at h
        · rename_i cs2 r h2
          cases h
          exact xStep_ok ht hnt h0 hc.left (xGo_ok ht hnt h2 hc.right k)
        · cases h
      · cases h
  | f + 1,_,.c v :: us,l,env,_,nx,_,H,_,_,_,h,hc,k => by
    unfold xGo at h
    split at h
    · cases h
    · split at h
      · rename_i cs0 e0 h0
        split at h
        · rename_i cs2 r h2; cases h; exact xStepC_ok ht hnt h0 hc.left (xGo_ok ht hnt h2 hc.right k)
        · cases h
      · cases h
  | f + 1,m,.b n bs :: us,l,env,env',nx,nx',H,H',cs,Q,h,hc,k => by
    obtain ⟨d,b,want,cs1,e1,n1,H1,cs2,e2,n2,H2,po,l2,pd,pv,cs3,hl,r1,r2,hdr,hok,hp,hd,hpd,hr,rfl⟩ := xGo_b h
    have q1 := impP_of hc.left
    have q2 := impP_of hc.right.left
    have hc3 := hc.right.right
    have hrest : R P c ops l2 ((pd,pv) :: dropEs env (dsts (l.take n))) nx H Q := xGo_ok ht hnt hr hc3 k
    have way : ∀ {w : Bool} {cse e nn HH} {bs'},b = w → xGo P false tab nt ops f bs' (l.take n) ((d,.f (.v (.bool w))) :: env) nx H = some (cse,e,nn,HH) → AllP cse →
        (R P c ops (po :: l2) e nx H Q) → R P c ops l env nx H Q := by
      intro w cse e nn HH bs' hb hx hce hk
      obtain ⟨z1,z2⟩ := xGo_pure hx
      subst z1; subst z2
      refine R_cut n (mid := fun e' n' H'' => e' = e ∧ n' = nn ∧ H'' = HH) ?_ ?_
      · refine r_sub (E := (d,.f (.v (.bool w))) :: env) (fun k p hk => ?_) (xGo_ok ht hnt hx hce (r_mid ⟨rfl,rfl,rfl⟩))
        by_cases hkd : d = k
        · subst hkd; rw [look_cons_same] at hk; rw [hl,hb]; exact hk
        · rw [look_cons_ne _ _ hkd] at hk; exact hk
      · rintro e' n' H'' ⟨rfl,rfl,rfl⟩
        rw [hdr]; exact hk
    have same : ∀ {w : Bool} {cse e nn HH} {bs'},xGo P false tab nt ops f bs' (l.take n) ((d,.f (.v (.bool w))) :: env) nx H = some (cse,e,nn,HH) → b = w → look e d = some (.f (.v (.bool w))) ∧
        ∀ k p,look (dropEs env (dsts (l.take n))) k = some p → look e k = some p := by
      intro w cse e nn HH bs' hx hb
      refine ⟨by rw [xGo_look hx d hd,look_cons_same],fun k p hk => ?_⟩
      rw [look_dropEs] at hk
      split at hk
      · cases hk
      · rename_i hkn
        rw [xGo_look hx k hkn]
        by_cases hkd : d = k
        · subst hkd; rw [look_cons_same]; rw [hl,hb] at hk; exact hk
        · rw [look_cons_ne _ _ hkd]; exact hk
    have fin : ∀ {e : Env}{v : PV},v = pv → (∀ k p,look (dropEs env (dsts (l.take n))) k = some p → look e k = some p) → R P c ops l2 ((pd,v) :: e) nx H Q := by
      intro e v hv he
      subst hv
      refine r_sub (E := (pd,v) :: dropEs env (dsts (l.take n))) (fun k p hk => ?_) hrest
      by_cases hkd : pd = k
      · subst hkd; rw [look_cons_same] at hk ⊢; exact hk
      · rw [look_cons_ne _ _ hkd] at hk ⊢; exact he k p hk
    obtain ⟨pdst,pop,pty,ppos,pa,pg⟩ := po
    unfold xPick at hp
    split at hp
    · cases hp
    · rename_i q hq
      simp only at hq hok
      subst hq
      split at hp
      · cases hp
      · rename_i hg
        simp only at hg
        subst hg
        split at hp
        · rename_i d' x y hop
          simp only at hop
          subst hop
          split at hp
          · cases hp
          · rename_i hdd
            have hdd := Nat.eq_of_beq_eq_true hdd
            subst hdd
            have pick : ∀ {e : Env}{t : Bool}{v : PV},look e d' = some (.f (.v (.bool t))) → ev e (if t then x else y) = some v → R P c ops l2 ((q,v) :: e) nx H Q → R P c ops (⟨some q,.pick (.tmp d') x y,pty,ppos,pa,none⟩ :: l2) e nx H Q := by
              intro e t v h1 h2 h3
              refine r_op ht hnt hok ⟨t,h1,fun e1 => ?_,fun e1 => ?_⟩
              · subst e1; exact ⟨v,h2,h3⟩
              · subst e1; exact ⟨v,h2,h3⟩
            split at hp
            · split at hp
              · split at hp
                · rename_i u hu
                  cases hp
                  cases b with
                  | true =>
                    obtain ⟨s1,s2⟩ := same r1 rfl
                    exact way rfl r1 (q1 rfl) (pick s1 hu (fin rfl s2))
                  | false =>
                    obtain ⟨s1,s2⟩ := same r2 rfl
                    exact way rfl r2 (q2 rfl) (pick (v := .f (.v (.bool false))) s1 rfl (fin rfl s2))
                · cases hp
              · cases hp
            · split at hp
              · split at hp
                · rename_i u hu
                  cases hp
                  cases b with
                  | false =>
                    obtain ⟨s1,s2⟩ := same r1 rfl
                    exact way rfl r1 (q1 rfl) (pick s1 hu (fin rfl s2))
                  | true =>
                    obtain ⟨s1,s2⟩ := same r2 rfl
                    exact way rfl r2 (q2 rfl) (pick (v := .f (.v (.bool true))) s1 rfl (fin rfl s2))
                · cases hp
              · cases hp
        · cases hp
def lenV {α : Type} (lo : Nat) (hi : Option Nat) (f : α → FV) (l : List α) : Prop := (((view lo hi (l.map f)).length : Nat) : Int) = (((view lo hi l).length : Nat) : Int)
def xFin (r : Option (List Prop × Env × Nat × Heap)) (ks : List Nat) (fr : Bool) : Option (List Prop × Env × Nat × Heap) :=
  match fr with
  | false => none
  | true => match r with
    | some (cs,e,n,H) => some (cs,sel e ks,n,H)
    | none => none
def xFree (env : Env) (l : List Oper) : Bool := (dsts l).all fun d => (look env d).isNone
theorem xFin_some {r : Option (List Prop × Env × Nat × Heap)}{ks : List Nat}{fr : Bool}{cs : List Prop}{E : Env}{n : Nat}{H : Heap} (h : xFin r ks fr = some (cs,E,n,H)) : fr = true ∧ ∃ e,r = some (cs,e,n,H) ∧ E = sel e ks := by
  unfold xFin at h
  split at h
  · cases h
  · split at h
    · cases h; exact ⟨rfl,_,rfl,rfl⟩
    · cases h
theorem x_any (ht : TabOk P tab) (hnt : c.nt = nt) {Q : Post}{m : Bool}{f n : Nat}{us : List XA}{l : List Oper}{env env' E : Env}{nx nx' : Nat}{H H' : Heap}{cs : List Prop} (h : xGo P m tab nt ops f us (l.take n) env nx H = some (cs,env',nx',H')) (hc : AllP cs)
    (he : ∀ k p,look E k = some p → look env' k = some p) (k : R P c ops (l.drop n) E nx' H' Q) : R P c ops l env nx H Q :=
  R_cut n (mid := fun e n' H'' => e = env' ∧ n' = nx' ∧ H'' = H') (xGo_ok ht hnt h hc (r_mid ⟨rfl,rfl,rfl⟩)) (by rintro e n' H'' ⟨rfl,rfl,rfl⟩; exact r_sub he k)
theorem x_free {P : Program}{m : Bool}{f : Nat}{us : List XA}{l : List Oper}{env env' : Env}{nx nx' : Nat}{H H' : Heap}{cs : List Prop}{ks : List Nat} (h : xGo P m tab nt ops f us l env nx H = some (cs,env',nx',H')) (hf : xFree env l = true) : ∀ k p,look (sel env' ks ++ env) k = some p → look env' k = some p := by
  intro k p hk
  rw [look_append] at hk
  cases hs : look (sel env' ks) k with
  | some q => rw [hs] at hk; cases hk; exact look_sel hs
  | none =>
    rw [hs] at hk
    have hk : look env k = some p := hk
    rw [xGo_look h k (fun hm => by have := List.all_eq_true.1 hf k hm; rw [hk] at this; cases this)]
    exact hk
theorem x_p (ht : TabOk P tab) (hnt : c.nt = nt) {Q : Post}{l : List Oper}{env : Env}{nx : Nat}{H : Heap} (n : Nat) (us : List XA) (cs : List Prop) (D : Env) (h : (xFin (xGo P false tab nt ops 600 us (l.take n) env nx H) (D.map Prod.fst) (xFree env (l.take n))).map (fun r => (r.1,r.2.1)) = some (cs,D)) (hc : AllP cs)
    (k : R P c ops (l.drop n) (D ++ env) nx H Q) : R P c ops l env nx H Q := by
  obtain ⟨⟨cs0,E0,n0,H0⟩,h1,h2⟩ := Option.map_eq_some_iff.1 h
  cases h2
  obtain ⟨hf,e,hr,hD⟩ := xFin_some h1
  obtain ⟨z1,z2⟩ := xGo_pure hr
  subst z1; subst z2
  exact x_any ht hnt hr hc (E := E0 ++ env) (by rw [hD]; exact x_free hr hf) k
end
inductive XD where
  | o (n : Nat)
  | c (v : PV)
section
variable (P : Program) (tab : Tab) (ops : Array Oper) (B : List (List Nat))
end
section
variable {P : Program}{tab : Tab}{ops : Array Oper}{B : List (List Nat)}{C : List Cert → Env → Nat → Heap → Prop}
section
variable {rest : List Oper}{acc : List Cert}{env : Env}{nx : Nat}{H : Heap}{dst : Option Nat}{op : Op}{t : Nat}{p : String}{a : Array Edge}
end
end
theorem nb {a b : Nat} (h : Nat.ble a b = true) : a ≤ b := Nat.le_of_ble_eq_true h
section
variable {P : Program}{tab : Tab}{c : Ctx}{ops : Array Oper}{nt nx : Nat}{env : Env}{H : Heap}{Q Q2 : Post}{F : Env → Nat → Heap → Prop}{a b : Code}
end
section
variable {P : Program}{tab : Tab}{c : Ctx}{nt : Nat}
end
end Go.Proofs.YtnajikpdnccilaaGreat.Pv
namespace Go.Proofs.YtnajikpdnccilaaGreat
open Go Go.Proofs.YtnajikpdnccilaaGreat.Pv
end Go.Proofs.YtnajikpdnccilaaGreat
namespace Go.Proofs.YtnajikpdnccilaaGreat.Pv
open Go
theorem qo {c : Ctx}{nx nt : Nat}{env : Env}{H : Heap}{Q : Post}{ops : Array Oper}{rest : List Oper}{dst : Option Nat}{op : Op}{t : Nat}{p : String}{a : Array Edge} (hnt : c.nt = nt) (hd : dstOk nt dst = true) (h : stepOp Tryz.prog tab env nx H (fun pv nx' H' => R Tryz.prog c ops rest (putE dst pv env) nx' H' Q) op) : R Tryz.prog c ops (⟨dst,op,t,p,a,none⟩ :: rest) env nx H Q := r_op tabOk hnt hd h
theorem qm {c : Ctx}{nx nt : Nat}{env : Env}{H : Heap}{Q : Post}{ops : Array Oper}{rest : List Oper}{dst : Option Nat}{t : Nat}{p : String}{a : Array Edge}{x : Operand}{pv : PV} (hnt : c.nt = nt) (hd : dstOk nt dst = true) (h : ev env x = some pv) (k : R Tryz.prog c ops rest (putE dst pv env) nx H Q) : R Tryz.prog c ops (⟨dst,.move x,t,p,a,none⟩ :: rest) env nx H Q := r_op tabOk hnt hd (s_move h k)
theorem qa {c : Ctx}{nx nt : Nat}{env : Env}{H : Heap}{Q : Post}{ops : Array Oper}{rest : List Oper}{dst : Option Nat}{t : Nat}{p : String}{a : Array Edge}{x : Operand}{pv : PV} (hnt : c.nt = nt) (hd : dstOk nt dst = true) (h : ev env x = some pv) (k : R Tryz.prog c ops rest (putE dst pv env) nx H Q) : R Tryz.prog c ops (⟨dst,.assign x,t,p,a,none⟩ :: rest) env nx H Q := r_op tabOk hnt hd (s_assign h k)
theorem xp {c : Ctx}{nx nt : Nat}{env : Env}{H : Heap}{Q : Post}{ops : Array Oper}{l : List Oper} (hnt : c.nt = nt) (n : Nat) (us : List XA) (cs : List Prop) (D : Env) (k : R Tryz.prog c ops (l.drop n) (D ++ env) nx H Q) (h : (xFin (xGo Tryz.prog false tab nt ops 600 us (l.take n) env nx H) (D.map Prod.fst) (xFree env (l.take n))).map (fun r => (r.1,r.2.1)) = some (cs,D) := by kernel_rfl) (hc : AllP cs := by exact trivial) : R Tryz.prog c ops l env nx H Q := x_p tabOk hnt n us cs D h hc k
end Go.Proofs.YtnajikpdnccilaaGreat.Pv
namespace Go.Proofs.YtnajikpdnccilaaGreat
open Go Go.Proofs.YtnajikpdnccilaaGreat.Pv
structure TWindow where
  space : Int
  virtual : Int
  physical : Int
  count : Int
  deriving DecidableEq,Inhabited
structure TSlot where
  at_ : Int
  len_ : Int
  deriving DecidableEq,Inhabited
structure TTenant where
  unit : Int
  functions : Int
  queue : Int
  windows : List TWindow
  slots : List TSlot
  deriving DecidableEq,Inhabited
structure TTable where
  frame : Int
  tenants : List TTenant
  deriving DecidableEq,Inhabited
structure TRequest where
  fn : Int
  at_ : Int
  count : Int
  wAt : Int
  sub : Int
  bits : List Bool
  vals : List UInt16
  and_ : UInt16
  or_ : UInt16
  deriving DecidableEq,Inhabited
structure TEvent where
  tick : Int
  tenant : Int
  kind : Int
  data : List UInt8
  deriving DecidableEq,Inhabited
structure TReply where
  fn : Int
  code : Int
  at_ : Int
  count : Int
  sub : Int
  bits : List Bool
  vals : List UInt16
  and_ : UInt16
  or_ : UInt16
  data : List UInt8
  deriving DecidableEq,Inhabited
structure TMsg where
  id : Int
  unit : Int
  pdu : List UInt8
  deriving DecidableEq,Inhabited
structure TSent where
  tick : Int
  tenant : Int
  data : List UInt8
  deriving DecidableEq,Inhabited
structure TStream where
  b : List UInt8
  closed : Bool
  deriving DecidableEq,Inhabited
structure TQueue where
  l : List TMsg
  most : Int
  refused : Int
  deriving DecidableEq,Inhabited
structure TItem where
  tick : Int
  order : Int
  key : Int
  deriving DecidableEq,Inhabited
structure THold where
  l : List TItem
  next : Int
  deriving DecidableEq,Inhabited
structure TSpan where
  at_ : Int
  count : Int
  deriving DecidableEq,Inhabited
structure TCount where
  messages : Int
  exceptions : Int
  bad : Int
  deriving DecidableEq,Inhabited
structure TPiece where
  at_ : Int
  physical : Int
  count : Int
  deriving DecidableEq,Inhabited
structure TPart where
  request : TRequest
  write : Bool
  deriving DecidableEq,Inhabited
def times {α : Type} (f : α → α) : Nat → α → α
  | 0,a => a
  | n + 1,a => f (times f n a)
def crcBit (n : UInt16) : UInt16 := if n &&& 1 = 1 then (n >>> UInt16.ofNat 1) ^^^ 0xA001 else n >>> UInt16.ofNat 1
def crcByte (n : UInt16) (c : UInt8) : UInt16 := times crcBit 8 (n ^^^ c.toUInt16)
def crcSum (l : List UInt8) : UInt16 := l.foldl crcByte 0xFFFF
theorem crcSum_snoc {l : List UInt8}{i : Nat}{b : UInt8} (h : l[i]? = some b) : crcSum (l.take (i + 1)) = crcByte (crcSum (l.take i)) b := by
  rw [List.take_add_one,h]
  simp [crcSum]
def sealL (l : List UInt8) : List UInt8 := l ++ [(crcSum l).toUInt8,(crcSum l >>> UInt16.ofNat 8).toUInt8]
@[simp] theorem sealL_length (l : List UInt8) : (sealL l).length = l.length + 2 := by simp [sealL]
def bsq (i : Nat) : List UInt8 := (List.range i).map fun j => UInt8.ofNat (j * j + 3)
@[simp] theorem bsq_length (i : Nat) : (bsq i).length = i := by simp [bsq]
set_option maxRecDepth 10000
set_option maxHeartbeats 1000000
theorem w_crc_Of (l : List UInt8) (cl_l : Bool) (hl : l.length ≤ 140737488355328) :
    T Tryz.prog 218 [pS 1 cl_l enc8 l] 0 [] (Ret (p16 (crcSum l)) 0 []) := by
 refine t_fun tabOk (n := 30) (rs := [.tmp 2]) Tryz.func218 rfl rfl rfl rfl (Nat.le_of_ble_eq_true rfl) ?_
 intro c hnt hk
 refine w_seq ?_
 refine w_R ?_
 refine qa hnt rfl rfl ?_
 refine r_end ?_
 refine q_then ?_
 refine w_seq ?_
 refine w_R ?_
 refine qa hnt rfl rfl ?_
 refine r_end ?_
 refine q_then ?_
 refine w_seq ?_
 refine w_seq ?_
 refine w_R ?_
 refine qm hnt rfl rfl ?_
 refine qo hnt rfl (s_lenM (l := l) tab_30 rfl (hM_sl (f := enc8) rfl) ?_)
 refine qm hnt rfl rfl ?_
 refine r_end ?_
 refine q_then ?_
 refine w_block ?_
 refine loop2 (fun (n : UInt16) (i : Nat) => i ≤ l.length ∧ n = crcSum (l.take i)) (fun (n : UInt16) (i : Nat) => [(3,p16 n),(7,pS 1 cl_l enc8 l),(8,pN l.length),(9,pN i)]) 0 (fun (n : UInt16) (i : Nat) => []) (fun (n : UInt16) (i : Nat) => l.length - i) (65535) (0) ?_ ⟨[],rfl,⟨⟨_,rfl,rfl,rfl⟩,⟨_,rfl,rfl,rfl⟩,⟨_,rfl,rfl,rfl⟩,⟨_,rfl,rfl,rfl⟩,trivial⟩,trivial,by rw [hk]; decide⟩ ?_
 · exact ⟨Nat.zero_le _,rfl⟩
 ·
  intro n i hI
  obtain ⟨hi,hn⟩ := hI
  refine w_seq ?_
  refine w_R ?_
  refine qo hnt rfl (s_lss rfl rfl ?_)
  refine r_end ?_
  refine q_then ?_
  refine w_seq ?_
  refine w_if rfl (fun c1 => ?_) (fun c1 => ?_)
  ·
   have c1_ := c1
   try simp only [sB] at c1
   refine w_skip ?_
   refine q_then ?_
   refine w_seq ?_
   refine w_block ?_
   refine w_seq ?_
   refine w_R ?_
   obtain ⟨e1,he1⟩ := get_of_lt l (i := i) (by omega)
   refine qo hnt rfl (s_iaM (q := i) (b := e1) (f := enc8) tab_30 rfl tab_5 rfl rfl (by omega) rfl he1 ?_)
   refine xp hnt 2 [.o 2] [] [(5,p8 e1)] ?_
   refine r_end ?_
   refine q_then ?_
   refine w_seq ?_
   refine w_R ?_
   refine qm hnt rfl rfl ?_
   refine qm hnt rfl rfl ?_
   refine qo hnt rfl (s_conv816 (a := e1) tab_5 tab_34 rfl rfl rfl ?_)
   refine qo hnt rfl (s_xor16 (a := n) (b := e1.toUInt16) rfl rfl ?_)
   refine qa hnt rfl rfl ?_
   refine r_end ?_
   refine q_then ?_
   refine w_seq ?_
   refine w_R ?_
   refine qm hnt rfl rfl ?_
   refine r_end ?_
   refine q_then ?_
   refine w_block ?_
   refine loop2 (fun (m : UInt16) (j : Nat) => j ≤ 8 ∧ m = times crcBit j (n ^^^ e1.toUInt16)) (fun (m : UInt16) (j : Nat) => [(3,p16 m),(7,pS 1 cl_l enc8 l),(8,pN l.length),(9,pN i),(17,pN j)]) 0 (fun (m : UInt16) (j : Nat) => []) (fun (m : UInt16) (j : Nat) => 8 - j) (n ^^^ e1.toUInt16) (0) ?_ ⟨[],rfl,⟨⟨_,rfl,rfl,rfl⟩,⟨_,rfl,rfl,rfl⟩,⟨_,rfl,rfl,rfl⟩,⟨_,rfl,rfl,rfl⟩,⟨_,rfl,rfl,rfl⟩,trivial⟩,trivial,by rw [hk]; decide⟩ ?_
   · exact ⟨by omega,rfl⟩
   ·
    intro m j hI
    obtain ⟨hj,hm⟩ := hI
    refine w_seq ?_
    refine w_R ?_
    refine qo hnt rfl (s_lss rfl rfl ?_)
    refine r_end ?_
    refine q_then ?_
    refine w_seq ?_
    refine w_if rfl (fun c2 => ?_) (fun c2 => ?_)
    ·
     have c2_ := c2
     try simp only [sB] at c2
     refine w_skip ?_
     refine q_then ?_
     refine w_seq ?_
     refine w_block ?_
     refine w_seq ?_
     refine w_R ?_
     refine qm hnt rfl rfl ?_
     refine qo hnt rfl (s_and16 (a := m) (b := 1) rfl rfl ?_)
     refine qa hnt rfl rfl ?_
     refine r_end ?_
     refine q_then ?_
     refine w_seq ?_
     refine w_R ?_
     refine qm hnt rfl rfl ?_
     refine qo hnt rfl (s_shr16 (a := m) 1 rfl rfl (by first|decide|omega) ?_)
     refine qa hnt rfl rfl ?_
     refine r_end ?_
     refine q_then ?_
     refine w_seq ?_
     refine w_R ?_
     refine qm hnt rfl rfl ?_
     refine qo hnt rfl (s_eql16 (a := m &&& 1) (b := 1) rfl rfl ?_)
     refine r_end ?_
     refine q_then ?_
     refine w_if rfl (fun c3 => ?_) (fun c3 => ?_)
     ·
      have c3_ := c3
      try simp only [sB] at c3
      refine w_R ?_
      refine qm hnt rfl rfl ?_
      refine qo hnt rfl (s_xor16 (a := m >>> UInt16.ofNat 1) (b := 40961) rfl rfl ?_)
      refine qa hnt rfl rfl ?_
      refine r_end ?_
      refine q_block ?_
      refine q_then ?_
      refine w_R ?_
      refine qo hnt rfl (s_addN (a := j) (b := 1) rfl rfl (by omega) (by omega) (by omega) ?_)
      refine qm hnt rfl rfl ?_
      refine r_end ?_
      refine q_then ?_
      refine ⟨((m >>> UInt16.ofNat 1) ^^^ 40961),(j + 1), ?_, ?_,⟨[],rfl,⟨⟨_,rfl,rfl,rfl⟩,⟨_,rfl,rfl,rfl⟩,⟨_,rfl,rfl,rfl⟩,⟨_,rfl,rfl,rfl⟩,⟨_,rfl,rfl,rfl⟩,trivial⟩,trivial,by rw [hk]; decide⟩⟩
      ·
       refine ⟨by omega, ?_⟩
       simp only [times,crcBit,← hm,c3,if_true,if_false]
      · omega
     have c3_ := c3
     try simp only [sB] at c3
     refine w_skip ?_
     refine q_block ?_
     refine q_then ?_
     refine w_R ?_
     refine qo hnt rfl (s_addN (a := j) (b := 1) rfl rfl (by omega) (by omega) (by omega) ?_)
     refine qm hnt rfl rfl ?_
     refine r_end ?_
     refine q_then ?_
     refine ⟨(m >>> UInt16.ofNat 1),(j + 1), ?_, ?_,⟨[],rfl,⟨⟨_,rfl,rfl,rfl⟩,⟨_,rfl,rfl,rfl⟩,⟨_,rfl,rfl,rfl⟩,⟨_,rfl,rfl,rfl⟩,⟨_,rfl,rfl,rfl⟩,trivial⟩,trivial,by rw [hk]; decide⟩⟩
     ·
      refine ⟨by omega, ?_⟩
      simp only [times,crcBit,← hm,c3,if_true,if_false]
     · omega
    have c2_ := c2
    try simp only [sB] at c2
    obtain rfl : j = 8 := by omega
    have hm : m = crcByte (crcSum (l.take i)) e1 := by rw [hm,hn]; rfl
    refine w_exit ?_
    refine q_then_exit ?_
    refine q_then_exit ?_
    refine q_block_exit ?_
    refine q_block ?_
    refine q_then ?_
    refine w_R ?_
    refine qo hnt rfl (s_addN (a := i) (b := 1) rfl rfl (by omega) (by omega) (by omega) ?_)
    refine qm hnt rfl rfl ?_
    refine r_end ?_
    refine q_then ?_
    refine ⟨(m),(i + 1), ?_, ?_,⟨[],rfl,⟨⟨_,rfl,rfl,rfl⟩,⟨_,rfl,rfl,rfl⟩,⟨_,rfl,rfl,rfl⟩,⟨_,rfl,rfl,rfl⟩,trivial⟩,trivial,by rw [hk]; decide⟩⟩
    ·
     exact ⟨by omega,by rw [crcSum_snoc he1]; exact hm⟩
    · omega
  have c1_ := c1
  try simp only [sB] at c1
  refine w_exit ?_
  refine q_then_exit ?_
  refine q_then_exit ?_
  refine q_block_exit ?_
  refine q_then ?_
  refine w_seq ?_
  refine w_R ?_
  refine xp hnt 2 [.o 2] [] [(2,p16 n)] ?_
  refine r_end ?_
  refine q_then ?_
  refine w_le (s := 2) (y := p16 (crcSum l)) rfl (le_of_eq (congrArg (fun z : UInt16 => p16 z) (show n = (crcSum l) by rw [hn,List.take_of_length_le (by omega)]))) ?_
  refine w_ret ?_
  exact fin_plain (ret_tmp rfl ret_nil) rfl rfl ⟨rfl,rfl,rfl⟩
end Go.Proofs.YtnajikpdnccilaaGreat
namespace Go.Proofs.YtnajikpdnccilaaGreat.Pv.M
open Go Go.Proofs Go.Proofs.YtnajikpdnccilaaGreat
theorem crc_fact {ρ : Nat → Int}{cs : List MV}{bytes : List UInt8}{r : MV} (hne : cs ≠ []) (hl : bytes.length = cs.length) (hle : cs.length ≤ 1000)
    (hb : ∀ (i : Nat) c b,cs[i]? = some c → bytes[i]? = some b → ∀ φ nx u,Rel ρ φ nx c u → u = .int .u8 (b.toNat : Nat))
    (hr : ∀ φ nx,Rel ρ φ nx r (.int .u16 ((crcSum bytes).toNat : Nat))) : PFactOk ρ Tryz.prog ⟨218,[.row 1 cs],r⟩ := by
  intro nx H args hm
  match args with
  | [] => cases (show false = true from hm)
  | a :: t =>
    obtain ⟨h1,h2⟩ := oc_inv (show oc (row 1 H a fun ds => eqL cs ds) (nilB t) = true from hm)
    have ht := nilB_nil h2
    subst ht
    rcases onS_inv (show onS a _ _ _ = true from h1) with ⟨sz,n,off,l,cp,rfl,h⟩|⟨_,_,_,h⟩|⟨x,rfl,h⟩
    · obtain ⟨e1,h⟩ := oc_inv h
      obtain ⟨o,e2,h⟩ := ob_inv h
      obtain ⟨cells,rfl,h⟩ := onCells_inv h
      obtain ⟨ds,e3,hq⟩ := ob_inv h
      obtain ⟨c1,c2,c3⟩ := cut_some e3
      have e1 := Nat.eq_of_beq_eq_true e1
      subst e1
      have hm1 : Nat.mul l 1 = l := Nat.mul_one l
      rw [hm1] at c1 c2 c3
      have hds : ds.length = cs.length := (eqL_ok (ρ := ρ) (φ := fun _ => default) (nx := 0) hq).1.symm
      have hcs : 0 < cs.length := List.length_pos_iff.2 hne
      obtain ⟨hc,hT⟩ := w_crc_Of bytes false (by omega)
      refine ⟨hc,fun w φ vals hok hsz hargs => ?_⟩
      have hs1 : vals.size = 1 := hsz
      obtain ⟨v,rfl⟩ : ∃ v,vals = #[v] := by
        refine ⟨vals[0], ?_⟩
        apply Array.ext
        · simp [hs1]
        · intro i h1 h2
          have : i = 0 := by omega
          subst this; rfl
      have hv := hargs 0 _ v rfl rfl
      obtain ⟨hn,arr,ty,g1,g2,g3⟩ := hok.obj n _ e2
      cases hv with
      | @sl _ _ _ _ _ A c k1 k2 k3 k4 k5 =>
        have hc0 : c ≠ 0 := by omega
        have hA := k5 hc0
        subst hA
        have hget : ∀ (i : Nat) b,bytes[i]? = some b → arr[(φ n).base + off + i]? = some (.int .u8 (b.toNat : Nat)) := by
          intro i b hi
          have hlt : i < bytes.length := (List.getElem?_eq_some_iff.1 hi).1
          have hd : ds[i]? = some ds[i] := by simp [show i < ds.length by omega]
          have hcell : cells[off + i]? = some ds[i] := by
            rw [← hd,c1,List.getElem?_take,if_pos (by omega),List.getElem?_drop]
          obtain ⟨u,u1,u2,u3⟩ := g3 _ _ hcell
          have hci : cs[i]? = some cs[i] := by simp [show i < cs.length by omega]
          have := hb i cs[i] b hci hi φ nx u (((eqL_ok (ρ := ρ) (φ := φ) (nx := nx) hq).2 i _ _ hci hd u).2 u3)
          rw [← this,← u1]; congr 1; omega
        have hrep : Rep (fun _ => (default : Phys)) 0 w (SS (fun _ _ => False) (fun _ => (default : Phys)) []) (pS 1 false enc8 bytes) (.slice (some ⟨(φ n).blk,(φ n).base + off,none⟩) l c) := by
          have hlen : (bytes.map enc8).length = l := by simp; omega
          rw [← hlen]
          refine .f (.sl 1 false _ _ _ c (fun i j => .int .u8 (((bytes[i]?).getD 0).toNat : Nat)) (by rw [hlen]; exact k2) (fun e => by cases e) (fun i x hx => ?_) (fun i x j d hx hd => ?_) (fun i x j d hx hd => ?_))
          all_goals
            simp only [List.getElem?_map,Option.map_eq_some_iff] at hx
            obtain ⟨b,hb1,rfl⟩ := hx
          · rfl
          · have hj : j = 0 := by
              cases j with
              | zero => rfl
              | succ j => simp [enc8,FV.cells] at hd
            subst hj
            refine ⟨?_, ?_,rfl⟩
            · simp only [World.cell?,g1,Option.isSome_none,Bool.false_eq_true,if_false]
              rw [show (φ n).base + off + i * 1 + 0 = (φ n).base + off + i by omega]
              first|(rw [hget i b hb1]; simp [hb1]; done)|(simp [hget i b hb1,hb1]; done)
            · rintro (h|⟨m,o',m1,_⟩)
              · exact h
              · cases m1
          · have hj : j = 0 ∧ d = .v (.int .u8 (b.toNat : Nat)) := by
              cases j with
              | zero => simp [enc8,FV.cells] at hd; exact ⟨rfl,hd.symm⟩
              | succ j => simp [enc8,FV.cells] at hd
            obtain ⟨rfl,rfl⟩ := hj
            simp only [hb1,Option.getD_some]
            exact .v _
        refine (hT w (fun _ => default) (fun _ _ => False) #[_] (fun b off h => h.elim) ⟨fun n o h => (by cases h),fun n m o o' h => (by cases h),fun n o h => (by cases h)⟩ rfl fun i a v h1 h2 => ?_).mono ?_
        · cases i with
          | zero => simp at h1 h2; subst h1 h2; exact hrep
          | succ i => simp at h1
        · rintro e w' ⟨r',k',H',φ',u,he,⟨rfl,rfl,rfl⟩,_,hru,hext,_,_⟩
          have hblk : ∀ b,b < w.heap.size → w'.heap[b]? = w.heap[b]? := fun b hlt => hext.blk b hlt fun off => by rintro ⟨m,o',m1,_⟩; cases m1
          have hu := hru.v_inv
          subst hu
          refine ⟨φ,_,he,⟨fun m o hm => ?_,hok.dis⟩,hr φ nx,⟨hext.os,hext.tape,hext.output,hext.size,fun b hb _ => hblk b hb,fun b _ h => h⟩,Nat.le_refl _,fun _ _ => rfl⟩
          obtain ⟨a1,a2⟩ := hok.obj m o hm
          exact ⟨a1,a2.step (fun _ _ => rfl) (Nat.le_refl _) a1 fun hd => hblk _ (a2.lt hd)⟩
    · cases h
    · obtain ⟨_,h⟩ := oc_inv h
      have := (eqL_ok (ρ := ρ) (φ := fun _ => default) (nx := 0) h).1
      exact absurd (List.length_eq_zero_iff.1 this) hne
def AllB (ρ : Nat → Int) : List MV → List UInt8 → Prop
  | [],[] => True
  | c :: cs,b :: bs => (∀ φ nx u,Rel ρ φ nx c u → u = .int .u8 (b.toNat : Nat)) ∧ AllB ρ cs bs
  | _,_ => False
theorem AllB.get {ρ : Nat → Int} : ∀ {cs : List MV}{bs : List UInt8},AllB ρ cs bs → bs.length = cs.length ∧ ∀ (i : Nat) c b,cs[i]? = some c → bs[i]? = some b → ∀ φ nx u,Rel ρ φ nx c u → u = .int .u8 (b.toNat : Nat)
  | [],[],_ => ⟨rfl,fun i c b h => by simp at h⟩
  | c :: cs,b :: bs,h => by
    obtain ⟨h1,h2⟩ := AllB.get h.2
    refine ⟨by simp [h1],fun i c' b' hc hb => ?_⟩
    cases i with
    | zero => simp at hc hb; subst hc hb; exact h.1
    | succ i => exact h2 i c' b' (by simpa using hc) (by simpa using hb)
  | [],_ :: _,h => h.elim
  | _ :: _,[],h => h.elim
theorem byn {ρ : Nat → Int} (k : Nat) (h : k < 256) : ∀ φ nx u,Rel ρ φ nx (.n .u8 (k : Nat)) u → u = .int .u8 ((UInt8.ofNat k).toNat : Nat) := by
  intro φ nx u hu
  rw [num_rel] at hu
  rw [hu,UInt8.toNat_ofNat',Nat.mod_eq_of_lt h]
theorem bya {ρ : Nat → Int}{l : List Int}{n : Int} (hd : dot ρ 0 l = n) (h : 0 ≤ n ∧ n < 256) : ∀ φ nx u,Rel ρ φ nx (.a .u8 0 l) u → u = .int .u8 ((UInt8.ofNat n.toNat).toNat : Nat) := by
  intro φ nx u hu
  rw [int_rel,hd] at hu
  rw [hu,UInt8.toNat_ofNat',Nat.mod_eq_of_lt (show n.toNat < 2 ^ 8 by omega)]
  congr 1; omega
theorem crc_known {ρ : Nat → Int}{cs : List MV}{bytes : List UInt8}{l : List Int} (h : AllB ρ cs bytes) (hne : cs ≠ []) (hle : cs.length ≤ 1000) (hd : dot ρ 0 l = ((crcSum bytes).toNat : Nat)) : PFactOk ρ Tryz.prog ⟨218,[.row 1 cs],.a .u16 0 l⟩ :=
  crc_fact hne h.get.1 hle h.get.2 fun φ nx => by rw [int_rel,hd]; simp
set_option maxRecDepth 100000
theorem mixed : Tryz.prog.follows .mixedOrders = true := by kernel_rfl
noncomputable section
def D0 : Dm := ⟨[],[]⟩
end
noncomputable section
def rA1 : Rule := ⟨46,[.agg [.n .i64 72,.sl 5 91 0 1 (some 1)]],92,[(87,.cells [.n .i64 3,.n .i64 0,.n .i64 0,.n .i64 40,.n .i64 0,.n .i64 0,.n .i64 0,.n .i64 40]),(89,.cells [.n .i64 0,.n .i64 72]),(91,.cells [.n .i64 1,.n .u32 12812670,.n .i64 2,.sl 4 87 0 2 (some 2),.sl 2 89 0 1 (some 1)])],⟨[],[]⟩,.b true,[],[]⟩
def rA2 : Rule := ⟨11,[.ptr 95 0,.n .i64 1],180,[(87,.cells [.n .i64 3,.n .i64 0,.n .i64 0,.n .i64 40,.n .i64 0,.n .i64 0,.n .i64 0,.n .i64 40]),(89,.cells [.n .i64 0,.n .i64 72]),(91,.cells [.n .i64 1,.n .u32 12812670,.n .i64 2,.sl 4 87 0 2 (some 2),.sl 2 89 0 1 (some 1)]),(93,.cells [.v (.slice none 0 0),.n .i64 0]),(95,.cells [.n .i64 72,.sl 5 91 0 1 (some 1),.n .i64 0,.a .i64 0 [1],.v (.pointer none),.ptr 92 0,.sl 3 117 0 1 none,.ptr 93 0,.mp 94,.n .i64 0]),(115,.cells [.sl 3 179 0 1 none,.n .i64 2,.n .i64 0]),(117,.cells [.ptr 114 0,.ptr 115 0,.ptr 96 0])],⟨[(0,70)],[]⟩,.v (.slice none 0 0),[(95,.cells [.n .i64 72,.sl 5 91 0 1 (some 1),.n .i64 0,.a .i64 1 [1],.v (.pointer none),.ptr 92 0,.sl 3 117 0 1 none,.ptr 93 0,.mp 94,.n .i64 0])],[(95,3)]⟩
def rA3 : Rule := ⟨11,[.ptr 95 0,.n .i64 1],658,[(87,.cells [.n .i64 3,.n .i64 0,.n .i64 0,.n .i64 40,.n .i64 0,.n .i64 0,.n .i64 0,.n .i64 40]),(89,.cells [.n .i64 0,.n .i64 72]),(91,.cells [.n .i64 1,.n .u32 12812670,.n .i64 2,.sl 4 87 0 2 (some 2),.sl 2 89 0 1 (some 1)]),(93,.cells [.sl 3 657 0 1 none,.n .i64 1]),(95,.cells [.n .i64 72,.sl 5 91 0 1 (some 1),.n .i64 0,.a .i64 0 [1],.v (.pointer none),.ptr 92 0,.sl 3 117 0 1 none,.ptr 93 0,.mp 94,.n .i64 1]),(115,.cells [.sl 3 199 0 0 (some 0),.n .i64 2,.n .i64 0]),(117,.cells [.ptr 114 0,.ptr 115 0,.ptr 96 0]),(657,.cells [.n .i64 143,.n .i64 0,.n .i64 0])],⟨[(72,141)],[]⟩,.v (.slice none 0 0),[(95,.cells [.n .i64 72,.sl 5 91 0 1 (some 1),.n .i64 0,.a .i64 1 [1],.v (.pointer none),.ptr 92 0,.sl 3 117 0 1 none,.ptr 93 0,.mp 94,.n .i64 1])],[(95,3)]⟩
end
theorem rA1_ok : RuleOk Tryz.prog rA1 ∧ onceB rA1.out = true := ruleB_ok (gs := []) (n := 1000) mixed rules_nil (by kernel_rfl)
theorem rA2_ok : RuleOk Tryz.prog rA2 ∧ onceB rA2.out = true := ruleB_ok (gs := []) (n := 1000) mixed (rules_cons rA1_ok rules_nil) (by kernel_rfl)
theorem rA3_ok : RuleOk Tryz.prog rA3 ∧ onceB rA3.out = true := ruleB_ok (gs := []) (n := 1000) mixed (rules_cons rA1_ok rules_nil) (by kernel_rfl)
theorem okD0 (ρ : Nat → Int) : OkD D0 ρ := ⟨fun i b h => by simp [D0] at h,fun f h => by simp [D0] at h⟩
theorem awake_ans (ρ : Nat → Int) : Ans ρ Tryz.prog 14 [] (.b true) := Ans.of mixed (okD0 ρ) facts_nil (rules_cons rA1_ok (rules_cons rA2_ok (rules_cons rA3_ok rules_nil))) (gs := [6,23,17,11]) (n := 1000) (by kernel_rfl)
noncomputable def awakeF : Fact := ⟨14,[],.b true⟩
theorem awakeF_ok (ρ : Nat → Int) : FactOk ρ Tryz.prog awakeF := ⟨by kernel_rfl,by kernel_rfl,awake_ans ρ⟩
theorem within3 {ρ : Nat → Int}{l : List Int}{n : Int} (hl : dot ρ 0 l = n) (hn : (-9223372036854775808) ≤ n ∧ n ≤ 9223372036854775807) {r : MV} (hr : ∀ φ nx u,Rel ρ φ nx r u ↔ u = .int .i64 (n % 3)) : Ans ρ Tryz.prog 15 [.a .i64 0 l,.n .i64 0,.n .i64 2] r := by
  have use : ∀ {ρ' : Nat → Int}{D : Dm}{l' : List Int}{r' : MV},OkD D ρ' → dot ρ' 0 l' = n → (∀ φ nx u,Rel ρ' φ nx r' u ↔ u = .int .i64 (n % 3)) → noneV r' = true → runX Tryz.prog D [] [] [] 5 15 [.a .i64 0 l',.n .i64 0,.n .i64 2] 0 [] (fun v _ _ => eqV v r') = true →
      Ans ρ Tryz.prog 15 [.a .i64 0 l,.n .i64 0,.n .i64 2] r := by
    intro ρ' D l' r' hD h1 h2 h3 h4
    refine (Ans.of mixed hD facts_nil rules_nil h4).alike rfl (fun i a a' e1 e2 φ nx => ?_) (fun φ nx u => (hr φ nx u).trans (h2 φ nx u).symm) h3
    match i with
    | 0 => simp at e1 e2; subst e1 e2; intro u; rw [int_rel,int_rel,hl,h1]
    | 1 => simp at e1 e2; subst e1 e2; intro u; rw [num_rel,num_rel]
    | 2 => simp at e1 e2; subst e1 e2; intro u; rw [num_rel,num_rel]
    | i + 3 => simp at e1
  have two : ∀ {a b a0 a1 b0 b1 : Int},a0 ≤ a ∧ a ≤ a1 → b0 ≤ b ∧ b ≤ b1 → OkD ⟨[(a0,a1),(b0,b1)],[]⟩ (fun i => if i = 0 then a else b) := by
    intro a b a0 a1 b0 b1 h1 h2
    refine ⟨fun i x hx => ?_,fun f hf => by simp at hf⟩
    match i with
    | 0 => simp at hx; subst hx; exact h1
    | 1 => simp at hx; subst hx; exact h2
    | i + 2 => simp at hx
  by_cases h1 : 0 ≤ n
  · by_cases h2 : n ≤ 2
    · refine use (l' := [1]) (r' := .a .i64 0 [1]) (two (a := n) (b := 0) (a0 := 0) (a1 := 2) (b0 := 0) (b1 := 0) ⟨h1,h2⟩ ⟨by omega,by omega⟩) (by simp [dot]) (fun φ nx u => ?_) rfl (by kernel_rfl)
      rw [int_rel]; simp [dot]; rw [Int.emod_eq_of_lt h1 (by omega)]
    · refine use (l' := [3,1]) (r' := .a .i64 0 [0,1]) (two (a := n / 3) (b := n % 3) (a0 := 1) (a1 := 4611686018427387904) (b0 := 0) (b1 := 2) ⟨by omega,by omega⟩ ⟨by omega,by omega⟩) (by simp [dot]; omega) (fun φ nx u => ?_) rfl (by kernel_rfl)
      rw [int_rel]; simp [dot]
  · by_cases h2 : (-n) % 3 = 0
    · refine use (l' := [-3]) (r' := .n .i64 0) (two (a := (-n) / 3) (b := 0) (a0 := 1) (a1 := 4611686018427387904) (b0 := 0) (b1 := 0) ⟨by omega,by omega⟩ ⟨by omega,by omega⟩) (by simp [dot]; omega) (fun φ nx u => ?_) rfl (by kernel_rfl)
      rw [num_rel,show n % 3 = 0 from by omega]
    · refine use (l' := [-3,-1]) (r' := .a .i64 3 [0,-1]) (two (a := (-n) / 3) (b := (-n) % 3) (a0 := 0) (a1 := 4611686018427387904) (b0 := 1) (b1 := 2) ⟨by omega,by omega⟩ ⟨by omega,by omega⟩) (by simp [dot]; omega) (fun φ nx u => ?_) rfl (by kernel_rfl)
      rw [int_rel]; simp [dot]; rw [show 3 + -(-n % 3) = n % 3 from by omega]
theorem within4 {ρ : Nat → Int}{l : List Int}{n : Int} (hl : dot ρ 0 l = n) (hn : (-9223372036854775808) ≤ n ∧ n ≤ 9223372036854775807) {r : MV} (hr : ∀ φ nx u,Rel ρ φ nx r u ↔ u = .int .i64 (n % 4)) : Ans ρ Tryz.prog 15 [.a .i64 0 l,.n .i64 0,.n .i64 3] r := by
  have use : ∀ {ρ' : Nat → Int}{D : Dm}{l' : List Int}{r' : MV},OkD D ρ' → dot ρ' 0 l' = n → (∀ φ nx u,Rel ρ' φ nx r' u ↔ u = .int .i64 (n % 4)) → noneV r' = true → runX Tryz.prog D [] [] [] 5 15 [.a .i64 0 l',.n .i64 0,.n .i64 3] 0 [] (fun v _ _ => eqV v r') = true →
      Ans ρ Tryz.prog 15 [.a .i64 0 l,.n .i64 0,.n .i64 3] r := by
    intro ρ' D l' r' hD h1 h2 h3 h4
    refine (Ans.of mixed hD facts_nil rules_nil h4).alike rfl (fun i a a' e1 e2 φ nx => ?_) (fun φ nx u => (hr φ nx u).trans (h2 φ nx u).symm) h3
    match i with
    | 0 => simp at e1 e2; subst e1 e2; intro u; rw [int_rel,int_rel,hl,h1]
    | 1 => simp at e1 e2; subst e1 e2; intro u; rw [num_rel,num_rel]
    | 2 => simp at e1 e2; subst e1 e2; intro u; rw [num_rel,num_rel]
    | i + 3 => simp at e1
  have two : ∀ {a b a0 a1 b0 b1 : Int},a0 ≤ a ∧ a ≤ a1 → b0 ≤ b ∧ b ≤ b1 → OkD ⟨[(a0,a1),(b0,b1)],[]⟩ (fun i => if i = 0 then a else b) := by
    intro a b a0 a1 b0 b1 h1 h2
    refine ⟨fun i x hx => ?_,fun f hf => by simp at hf⟩
    match i with
    | 0 => simp at hx; subst hx; exact h1
    | 1 => simp at hx; subst hx; exact h2
    | i + 2 => simp at hx
  by_cases h1 : 0 ≤ n
  · by_cases h2 : n ≤ 3
    · refine use (l' := [1]) (r' := .a .i64 0 [1]) (two (a := n) (b := 0) (a0 := 0) (a1 := 3) (b0 := 0) (b1 := 0) ⟨h1,h2⟩ ⟨by omega,by omega⟩) (by simp [dot]) (fun φ nx u => ?_) rfl (by kernel_rfl)
      rw [int_rel]; simp [dot]; rw [Int.emod_eq_of_lt h1 (by omega)]
    · refine use (l' := [4,1]) (r' := .a .i64 0 [0,1]) (two (a := n / 4) (b := n % 4) (a0 := 1) (a1 := 4611686018427387904) (b0 := 0) (b1 := 3) ⟨by omega,by omega⟩ ⟨by omega,by omega⟩) (by simp [dot]; omega) (fun φ nx u => ?_) rfl (by kernel_rfl)
      rw [int_rel]; simp [dot]
  · by_cases h2 : (-n) % 4 = 0
    · refine use (l' := [-4]) (r' := .n .i64 0) (two (a := (-n) / 4) (b := 0) (a0 := 1) (a1 := 4611686018427387904) (b0 := 0) (b1 := 0) ⟨by omega,by omega⟩ ⟨by omega,by omega⟩) (by simp [dot]; omega) (fun φ nx u => ?_) rfl (by kernel_rfl)
      rw [num_rel,show n % 4 = 0 from by omega]
    · refine use (l' := [-4,-1]) (r' := .a .i64 4 [0,-1]) (two (a := (-n) / 4) (b := (-n) % 4) (a0 := 0) (a1 := 4611686018427387904) (b0 := 1) (b1 := 3) ⟨by omega,by omega⟩ ⟨by omega,by omega⟩) (by simp [dot]; omega) (fun φ nx u => ?_) rfl (by kernel_rfl)
      rw [int_rel]; simp [dot]; rw [show 4 + -(-n % 4) = n % 4 from by omega]
def faA (v : Int) : List UInt8 := [UInt8.ofNat 17,UInt8.ofNat 16,UInt8.ofNat 0,UInt8.ofNat 133,UInt8.ofNat 0,UInt8.ofNat 1,UInt8.ofNat 2,UInt8.ofNat (v / 256).toNat,UInt8.ofNat (v % 256).toNat]
def faB (v : Int) : List UInt8 := [UInt8.ofNat 17,UInt8.ofNat 3,UInt8.ofNat 2,UInt8.ofNat (v / 256).toNat,UInt8.ofNat (v % 256).toNat]
def faVars (a b c v : Int) (i : Nat) : Int := match i with
  | 0 => v / 256
  | 1 => v % 256
  | 2 => ((crcSum (faA v)).toNat : Int) / 256
  | 3 => ((crcSum (faA v)).toNat : Int) % 256
  | 4 => ((crcSum (faB v)).toNat : Int) / 256
  | 5 => ((crcSum (faB v)).toNat : Int) % 256
  | 6 => a
  | 7 => b
  | 8 => c
  | _ => 0
noncomputable section
def faD : Dm := ⟨[(0,255),(0,255),(0,255),(0,255),(0,255),(0,255),(-9223372036854775808,9223372036854775807),(-9223372036854775808,9223372036854775807),(-9223372036854775808,9223372036854775807)],[]⟩
def faCA : PFact := ⟨218,[.row 1 [.n .u8 17,.n .u8 16,.n .u8 0,.n .u8 133,.n .u8 0,.n .u8 1,.n .u8 2,.a .u8 0 [1],.a .u8 0 [0,1]]],.a .u16 0 [0,0,256,1]⟩
def faCB : PFact := ⟨218,[.row 1 [.n .u8 17,.n .u8 3,.n .u8 2,.a .u8 0 [1],.a .u8 0 [0,1]]],.a .u16 0 [0,0,0,0,256,1]⟩
def awakeP : PFact := ⟨14,[],.b true⟩
def inP (k h : Nat) (r : Int) : PFact := ⟨15,[.val (.a .i64 0 (unitL k)),.val (.n .i64 0),.val (.n .i64 h)],.n .i64 r⟩
abbrev faC : List PFact := [faCA,faCB]
abbrev faFs (x y z : Int) : List PFact := [faCA,faCB,awakeP,inP 6 2 x,inP 7 2 y,inP 8 3 z]
abbrev faArgs : List MV := [.a .i64 0 [0,0,0,0,0,0,1],.a .i64 0 [0,0,0,0,0,0,0,1],.a .i64 0 [0,0,0,0,0,0,0,0,1],.a .u16 0 [256,1]]
abbrev faRun (x y z : Int) (rs rx : TRs) (ls : LHs) : Bool := runZ Tryz.prog faD (faFs x y z) rs rx ls [] 1000 4 faArgs 0 [] (fun v _ _ => eqV v (.b true))
end
noncomputable section
def faC13 : Dm := ⟨[(0,255),(0,255),(0,255),(0,255),(0,255),(0,255),(-9223372036854775808,9223372036854775807),(-9223372036854775808,9223372036854775807),(-9223372036854775808,9223372036854775807),(0,70)],[]⟩
def faC37 : Dm := ⟨[(0,255),(0,255),(0,255),(0,255),(0,255),(0,255),(-9223372036854775808,9223372036854775807),(-9223372036854775808,9223372036854775807),(-9223372036854775808,9223372036854775807),(72,141)],[]⟩
def faC46 : Dm := ⟨[(0,255),(0,255),(0,255),(0,255),(0,255),(0,255),(-9223372036854775808,9223372036854775807),(-9223372036854775808,9223372036854775807),(-9223372036854775808,9223372036854775807),(144,214)],[]⟩
def faC63 : Dm := ⟨[(0,255),(0,255),(0,255),(0,255),(0,255),(0,255),(-9223372036854775808,9223372036854775807),(-9223372036854775808,9223372036854775807),(-9223372036854775808,9223372036854775807),(216,285)],[]⟩
def fa0 : TRule := ⟨6,[.n .i64 2,.n .i64 1,.n .i64 0],0,[],[],D0,.agg [.n .i64 144,.sl 5 21 0 2 none],22,[(3,.cells [.n .i64 0,.n .i64 72]),(9,.cells [.n .i64 3,.n .i64 0,.n .i64 0,.n .i64 40,.n .i64 0,.n .i64 0,.n .i64 0,.n .i64 40]),(13,.cells [.n .i64 72,.n .i64 72]),(19,.cells [.n .i64 3,.n .i64 0,.n .i64 128,.n .i64 40,.n .i64 0,.n .i64 0,.n .i64 128,.n .i64 40]),(21,.cells [.n .i64 1,.n .u32 12812670,.n .i64 2,.sl 4 9 0 2 none,.sl 2 3 0 1 (some 1),.n .i64 2,.n .u32 12812670,.n .i64 3,.sl 4 19 0 2 none,.sl 2 13 0 1 (some 1)])],some []⟩
def fa1 : TRule := ⟨164,[.agg [.n .i64 0,.n .i64 40],.agg [.n .i64 0,.n .i64 40]],0,[],[],D0,.tup [.agg [.n .i64 0,.n .i64 40],.b true],0,[],some []⟩
def fa2 : TRule := ⟨165,[.agg [.n .i64 0,.n .i64 0,.n .i64 128,.n .i64 40],.agg [.n .i64 3,.n .i64 0,.n .i64 128,.n .i64 40]],0,[],[],D0,.b false,0,[],some []⟩
def fa3 : TRule := ⟨164,[.agg [.n .i64 128,.n .i64 40],.agg [.n .i64 0,.n .i64 40]],0,[],[],D0,.tup [.agg [.n .i64 0,.n .i64 0],.b false],0,[],some []⟩
def fa4 : TRule := ⟨145,[.agg [.n .i64 72,.n .i64 72],.sl 2 0 0 1 (some 1)],1,[.arg 1 0],[(0,.cells [.n .i64 0,.n .i64 72])],D0,.b false,1,[],some []⟩
def fa5 : TRule := ⟨46,[.agg [.n .i64 144,.sl 5 0 0 2 none]],5,[.arg 0 1,.cell 0 3,.cell 0 4,.cell 0 8,.cell 0 9],[(0,.cells [.n .i64 1,.n .u32 12812670,.n .i64 2,.sl 4 1 0 2 none,.sl 2 2 0 1 (some 1),.n .i64 2,.n .u32 12812670,.n .i64 3,.sl 4 3 0 2 none,.sl 2 4 0 1 (some 1)]),(1,.cells [.n .i64 3,.n .i64 0,.n .i64 0,.n .i64 40,.n .i64 0,.n .i64 0,.n .i64 0,.n .i64 40]),(2,.cells [.n .i64 0,.n .i64 72]),(3,.cells [.n .i64 3,.n .i64 0,.n .i64 128,.n .i64 40,.n .i64 0,.n .i64 0,.n .i64 128,.n .i64 40]),(4,.cells [.n .i64 72,.n .i64 72])],D0,.b true,5,[],some []⟩
def fa6 : TRule := ⟨7,[.agg [.n .i64 144,.sl 5 0 0 2 none]],5,[.arg 0 1,.cell 0 3,.cell 0 4,.cell 0 8,.cell 0 9],[(0,.cells [.n .i64 1,.n .u32 12812670,.n .i64 2,.sl 4 1 0 2 none,.sl 2 2 0 1 (some 1),.n .i64 2,.n .u32 12812670,.n .i64 3,.sl 4 3 0 2 none,.sl 2 4 0 1 (some 1)]),(1,.cells [.n .i64 3,.n .i64 0,.n .i64 0,.n .i64 40,.n .i64 0,.n .i64 0,.n .i64 0,.n .i64 40]),(2,.cells [.n .i64 0,.n .i64 72]),(3,.cells [.n .i64 3,.n .i64 0,.n .i64 128,.n .i64 40,.n .i64 0,.n .i64 0,.n .i64 128,.n .i64 40]),(4,.cells [.n .i64 72,.n .i64 72])],D0,.ptr 33 0,78,[(6,.cells [.sl 1 7 0 512 (some 512),.sl 1 9 0 512 (some 512),.sl 1 8 0 512 (some 512),.sl 1 10 0 512 (some 512)]),(7,.cells (rpt 512 [.b false])),(8,.cells (rpt 512 [.n .u16 0])),(9,.cells (rpt 512 [.b false])),(10,.cells (rpt 512 [.n .u16 0])),(11,.cells [.ptr 6 0,.n .u8 0,.n .i64 0,.n .i64 0]),(18,.cells [.n .i64 3,.n .i64 0,.n .i64 0,.n .i64 40,.n .i64 0,.n .i64 0,.n .i64 0,.n .i64 40]),(20,.cells [.n .i64 0,.n .i64 72]),(25,.cells [.n .i64 3,.n .i64 0,.n .i64 128,.n .i64 40,.n .i64 0,.n .i64 0,.n .i64 128,.n .i64 40]),(27,.cells [.n .i64 72,.n .i64 72]),(29,.cells [.n .i64 1,.n .u32 12812670,.n .i64 2,.sl 4 18 0 2 (some 2),.sl 2 20 0 1 (some 1),.n .i64 2,.n .u32 12812670,.n .i64 3,.sl 4 25 0 2 (some 2),.sl 2 27 0 1 (some 1)]),(30,.cells [.ptr 11 0,.v (.slice none 0 0),.v (.slice none 0 0),.v (.slice none 0 0),.v (.slice none 0 0),.v (.slice none 0 0)]),(31,.cells [.v (.slice none 0 0),.n .i64 0]),(32,.map []),(33,.cells [.n .i64 144,.sl 5 29 0 2 (some 2),.n .i64 0,.n .i64 0,.v (.pointer none),.ptr 30 0,.sl 3 77 0 2 none,.ptr 31 0,.mp 32,.n .i64 0]),(34,.cells [.v (.slice none 0 0),.b false]),(46,.cells [.n .i64 3,.n .i64 0,.n .i64 0,.n .i64 40,.n .i64 0,.n .i64 0,.n .i64 0,.n .i64 40]),(48,.cells [.n .i64 0,.n .i64 72]),(51,.cells [.n .i64 0,.n .i64 0,.n .i64 0]),(52,.cells [.n .i64 1,.n .u32 12812670,.n .i64 2,.sl 4 46 0 2 (some 2),.sl 2 48 0 1 (some 1),.n .i64 0,.ptr 30 0,.ptr 51 0]),(53,.cells [.v (.slice none 0 0),.n .i64 2,.n .i64 0]),(56,.cells [.v (.slice none 0 0),.b false]),(68,.cells [.n .i64 3,.n .i64 0,.n .i64 128,.n .i64 40,.n .i64 0,.n .i64 0,.n .i64 128,.n .i64 40]),(70,.cells [.n .i64 72,.n .i64 72]),(73,.cells [.n .i64 0,.n .i64 0,.n .i64 0]),(74,.cells [.n .i64 2,.n .u32 12812670,.n .i64 3,.sl 4 68 0 2 (some 2),.sl 2 70 0 1 (some 1),.n .i64 1,.ptr 30 0,.ptr 73 0]),(75,.cells [.v (.slice none 0 0),.n .i64 3,.n .i64 0]),(77,.cells [.ptr 52 0,.ptr 53 0,.ptr 34 0,.ptr 74 0,.ptr 75 0,.ptr 56 0])],some []⟩
def fa7 : TRule := ⟨41,[.agg [.n .i64 16,.n .i64 5,.n .i64 1,.n .i64 0,.n .i64 0,.v (.slice none 0 0),.sl 1 0 0 1 (some 1),.n .u16 0,.n .u16 0]],1,[.arg 0 6],[],D0,.n .i64 0,1,[],some []⟩
def fa8 : TRule := ⟨47,[.agg [.n .i64 144,.sl 5 0 0 2 (some 2)]],5,[.arg 0 1,.cell 0 3,.cell 0 4,.cell 0 8,.cell 0 9],[(0,.cells [.n .i64 1,.n .u32 12812670,.n .i64 2,.sl 4 1 0 2 (some 2),.sl 2 2 0 1 (some 1),.n .i64 2,.n .u32 12812670,.n .i64 3,.sl 4 3 0 2 (some 2),.sl 2 4 0 1 (some 1)]),(1,.cells [.n .i64 3,.n .i64 0,.n .i64 0,.n .i64 40,.n .i64 0,.n .i64 0,.n .i64 0,.n .i64 40]),(2,.cells [.n .i64 0,.n .i64 72]),(3,.cells [.n .i64 3,.n .i64 0,.n .i64 128,.n .i64 40,.n .i64 0,.n .i64 0,.n .i64 128,.n .i64 40]),(4,.cells [.n .i64 72,.n .i64 72])],D0,.agg [.n .i64 144,.sl 5 21 0 2 (some 2)],22,[(10,.cells [.n .i64 3,.n .i64 0,.n .i64 0,.n .i64 40,.n .i64 0,.n .i64 0,.n .i64 0,.n .i64 40]),(12,.cells [.n .i64 0,.n .i64 72]),(17,.cells [.n .i64 3,.n .i64 0,.n .i64 128,.n .i64 40,.n .i64 0,.n .i64 0,.n .i64 128,.n .i64 40]),(19,.cells [.n .i64 72,.n .i64 72]),(21,.cells [.n .i64 1,.n .u32 12812670,.n .i64 2,.sl 4 10 0 2 (some 2),.sl 2 12 0 1 (some 1),.n .i64 2,.n .u32 12812670,.n .i64 3,.sl 4 17 0 2 (some 2),.sl 2 19 0 1 (some 1)])],some []⟩
def fa9 : TRule := ⟨42,[.ptr 0 0],10,[.arg 0 0,.cell 0 1,.cell 0 5,.cell 0 6,.cell 0 7,.cell 0 8,.cell 1 3,.cell 1 4,.cell 1 8,.cell 1 9],[(0,.cells [.n .i64 144,.sl 5 1 0 2 (some 2),.n .i64 0,.n .i64 0,.v (.pointer none),.ptr 2 0,.sl 3 3 0 2 none,.ptr 4 0,.mp 5,.n .i64 0]),(1,.cells [.n .i64 1,.n .u32 12812670,.n .i64 2,.sl 4 6 0 2 (some 2),.sl 2 7 0 1 (some 1),.n .i64 2,.n .u32 12812670,.n .i64 3,.sl 4 8 0 2 (some 2),.sl 2 9 0 1 (some 1)]),(6,.cells [.n .i64 3,.n .i64 0,.n .i64 0,.n .i64 40,.n .i64 0,.n .i64 0,.n .i64 0,.n .i64 40]),(7,.cells [.n .i64 0,.n .i64 72]),(8,.cells [.n .i64 3,.n .i64 0,.n .i64 128,.n .i64 40,.n .i64 0,.n .i64 0,.n .i64 128,.n .i64 40]),(9,.cells [.n .i64 72,.n .i64 72])],D0,.agg [.n .i64 144,.sl 5 27 0 2 (some 2)],28,[(16,.cells [.n .i64 3,.n .i64 0,.n .i64 0,.n .i64 40,.n .i64 0,.n .i64 0,.n .i64 0,.n .i64 40]),(18,.cells [.n .i64 0,.n .i64 72]),(23,.cells [.n .i64 3,.n .i64 0,.n .i64 128,.n .i64 40,.n .i64 0,.n .i64 0,.n .i64 128,.n .i64 40]),(25,.cells [.n .i64 72,.n .i64 72]),(27,.cells [.n .i64 1,.n .u32 12812670,.n .i64 2,.sl 4 16 0 2 (some 2),.sl 2 18 0 1 (some 1),.n .i64 2,.n .u32 12812670,.n .i64 3,.sl 4 23 0 2 (some 2),.sl 2 25 0 1 (some 1)])],some []⟩
def fa10 : TRule := ⟨9,[.n .i64 7,.n .i64 2,.agg [.n .i64 16,.n .i64 5,.n .i64 1,.n .i64 0,.n .i64 0,.v (.slice none 0 0),.sl 1 0 0 1 (some 1),.n .u16 0,.n .u16 0]],1,[.arg 2 6],[(0,.cells [.a .u16 0 [256,1]])],faD,.sl 1 30 0 15 (some 15),31,[(30,.cells [.n .u8 0,.n .u8 7,.n .u8 0,.n .u8 0,.n .u8 0,.n .u8 9,.n .u8 2,.n .u8 16,.n .u8 0,.n .u8 5,.n .u8 0,.n .u8 1,.n .u8 2,.a .u8 0 [1,0],.a .u8 0 [0,1]])],none⟩
def fa11 : TRule := ⟨8,[.ptr 0 0,.n .i64 1,.sl 1 1 0 15 (some 15)],13,[.arg 0 0,.arg 2 0,.cell 0 1,.cell 0 5,.cell 0 6,.cell 0 7,.cell 0 8,.cell 4 0,.cell 4 1,.cell 4 2,.cell 4 3,.cell 4 4,.cell 4 5],[(0,.cells [.n .i64 144,.sl 5 2 0 2 (some 2),.n .i64 0,.n .i64 0,.v (.pointer none),.ptr 3 0,.sl 3 4 0 2 none,.ptr 5 0,.mp 6,.n .i64 0]),(1,.cells [.n .u8 0,.n .u8 7,.n .u8 0,.n .u8 0,.n .u8 0,.n .u8 9,.n .u8 2,.n .u8 16,.n .u8 0,.n .u8 5,.n .u8 0,.n .u8 1,.n .u8 2,.a .u8 0 [1,0],.a .u8 0 [0,1]]),(4,.cells [.ptr 7 0,.ptr 8 0,.ptr 9 0,.ptr 10 0,.ptr 11 0,.ptr 12 0]),(11,.cells [.v (.slice none 0 0),.n .i64 3,.n .i64 0]),(12,.cells [.v (.slice none 0 0),.b false])],faD,.v (.slice none 0 0),28,[(11,.cells [.sl 3 27 0 1 none,.n .i64 3,.n .i64 0]),(12,.cells [.sl 1 19 0 0 (some 0),.b false]),(19,.cells []),(25,.cells [.n .u8 16,.n .u8 0,.n .u8 5,.n .u8 0,.n .u8 1,.n .u8 2,.a .u8 0 [1,0],.a .u8 0 [0,1]]),(27,.cells [.n .i64 7,.n .i64 2,.sl 1 25 0 8 (some 8)])],none⟩
def fa12 : TRule := ⟨46,[.agg [.n .i64 144,.sl 5 0 0 2 (some 2)]],5,[.arg 0 1,.cell 0 3,.cell 0 4,.cell 0 8,.cell 0 9],[(0,.cells [.n .i64 1,.n .u32 12812670,.n .i64 2,.sl 4 1 0 2 (some 2),.sl 2 2 0 1 (some 1),.n .i64 2,.n .u32 12812670,.n .i64 3,.sl 4 3 0 2 (some 2),.sl 2 4 0 1 (some 1)]),(1,.cells [.n .i64 3,.n .i64 0,.n .i64 0,.n .i64 40,.n .i64 0,.n .i64 0,.n .i64 0,.n .i64 40]),(2,.cells [.n .i64 0,.n .i64 72]),(3,.cells [.n .i64 3,.n .i64 0,.n .i64 128,.n .i64 40,.n .i64 0,.n .i64 0,.n .i64 128,.n .i64 40]),(4,.cells [.n .i64 72,.n .i64 72])],D0,.b true,5,[],some []⟩
def fa13 : TRule := ⟨11,[.ptr 0 0,.n .i64 1],17,[.arg 0 0,.cell 0 1,.cell 0 5,.cell 0 6,.cell 0 7,.cell 0 8,.cell 1 3,.cell 1 4,.cell 1 8,.cell 1 9,.cell 3 0,.cell 3 1,.cell 3 2,.cell 3 3,.cell 3 4,.cell 3 5,.cell 14 0],[(0,.cells [.n .i64 144,.sl 5 1 0 2 (some 2),.n .i64 0,.a .i64 0 [0,0,0,0,0,0,0,0,0,1],.v (.pointer none),.ptr 2 0,.sl 3 3 0 2 none,.ptr 4 0,.mp 5,.n .i64 0]),(1,.cells [.n .i64 1,.n .u32 12812670,.n .i64 2,.sl 4 6 0 2 (some 2),.sl 2 7 0 1 (some 1),.n .i64 2,.n .u32 12812670,.n .i64 3,.sl 4 8 0 2 (some 2),.sl 2 9 0 1 (some 1)]),(3,.cells [.ptr 10 0,.ptr 11 0,.ptr 12 0,.ptr 13 0,.ptr 14 0,.ptr 15 0]),(4,.cells [.v (.slice none 0 0),.n .i64 0]),(6,.cells [.n .i64 3,.n .i64 0,.n .i64 0,.n .i64 40,.n .i64 0,.n .i64 0,.n .i64 0,.n .i64 40]),(7,.cells [.n .i64 0,.n .i64 72]),(8,.cells [.n .i64 3,.n .i64 0,.n .i64 128,.n .i64 40,.n .i64 0,.n .i64 0,.n .i64 128,.n .i64 40]),(9,.cells [.n .i64 72,.n .i64 72]),(11,.cells [.v (.slice none 0 0),.n .i64 2,.n .i64 0]),(14,.cells [.sl 3 16 0 1 none,.n .i64 3,.n .i64 0])],faC13,.v (.slice none 0 0),17,[(0,.cells [.n .i64 144,.sl 5 1 0 2 (some 2),.n .i64 0,.a .i64 1 [0,0,0,0,0,0,0,0,0,1],.v (.pointer none),.ptr 2 0,.sl 3 3 0 2 none,.ptr 4 0,.mp 5,.n .i64 0])],some [.own 0,.own 1,.own 2,.own 3,.own 4,.own 5,.own 6,.own 7,.own 8,.cell 0 3]⟩
def fa14 : TRule := ⟨33,[.ptr 0 0,.n .i64 72],17,[.arg 0 0,.cell 0 1,.cell 0 5,.cell 0 6,.cell 0 7,.cell 0 8,.cell 1 3,.cell 1 4,.cell 1 8,.cell 1 9,.cell 3 0,.cell 3 1,.cell 3 2,.cell 3 3,.cell 3 4,.cell 3 5,.cell 14 0],[(0,.cells [.n .i64 144,.sl 5 1 0 2 (some 2),.n .i64 0,.n .i64 71,.v (.pointer none),.ptr 2 0,.sl 3 3 0 2 none,.ptr 4 0,.mp 5,.n .i64 0]),(1,.cells [.n .i64 1,.n .u32 12812670,.n .i64 2,.sl 4 6 0 2 (some 2),.sl 2 7 0 1 (some 1),.n .i64 2,.n .u32 12812670,.n .i64 3,.sl 4 8 0 2 (some 2),.sl 2 9 0 1 (some 1)]),(3,.cells [.ptr 10 0,.ptr 11 0,.ptr 12 0,.ptr 13 0,.ptr 14 0,.ptr 15 0]),(4,.cells [.v (.slice none 0 0),.n .i64 0]),(6,.cells [.n .i64 3,.n .i64 0,.n .i64 0,.n .i64 40,.n .i64 0,.n .i64 0,.n .i64 0,.n .i64 40]),(7,.cells [.n .i64 0,.n .i64 72]),(8,.cells [.n .i64 3,.n .i64 0,.n .i64 128,.n .i64 40,.n .i64 0,.n .i64 0,.n .i64 128,.n .i64 40]),(9,.cells [.n .i64 72,.n .i64 72]),(11,.cells [.v (.slice none 0 0),.n .i64 2,.n .i64 0]),(14,.cells [.sl 3 16 0 1 none,.n .i64 3,.n .i64 0])],D0,.n .i64 72,17,[],some []⟩
def fa15 : TRule := ⟨118,[.agg [.n .i64 144,.sl 5 0 0 2 (some 2)],.n .i64 72],5,[.arg 0 1,.cell 0 3,.cell 0 4,.cell 0 8,.cell 0 9],[(0,.cells [.n .i64 1,.n .u32 12812670,.n .i64 2,.sl 4 1 0 2 (some 2),.sl 2 2 0 1 (some 1),.n .i64 2,.n .u32 12812670,.n .i64 3,.sl 4 3 0 2 (some 2),.sl 2 4 0 1 (some 1)]),(2,.cells [.n .i64 0,.n .i64 72]),(4,.cells [.n .i64 72,.n .i64 72])],D0,.tup [.n .i64 1,.n .i64 0],5,[],some []⟩
def fa16 : TRule := ⟨94,[.agg [.n .i64 144,.sl 5 0 0 2 (some 2)],.n .i64 72],5,[.arg 0 1,.cell 0 3,.cell 0 4,.cell 0 8,.cell 0 9],[(0,.cells [.n .i64 1,.n .u32 12812670,.n .i64 2,.sl 4 1 0 2 (some 2),.sl 2 2 0 1 (some 1),.n .i64 2,.n .u32 12812670,.n .i64 3,.sl 4 3 0 2 (some 2),.sl 2 4 0 1 (some 1)]),(1,.cells [.n .i64 3,.n .i64 0,.n .i64 0,.n .i64 40,.n .i64 0,.n .i64 0,.n .i64 0,.n .i64 40]),(2,.cells [.n .i64 0,.n .i64 72]),(3,.cells [.n .i64 3,.n .i64 0,.n .i64 128,.n .i64 40,.n .i64 0,.n .i64 0,.n .i64 128,.n .i64 40]),(4,.cells [.n .i64 72,.n .i64 72])],D0,.tup [.n .i64 1,.n .i64 0],5,[],some []⟩
def fa17 : TRule := ⟨150,[.sl 1 0 0 8 (some 8)],1,[.arg 0 0],[(0,.cells [.n .u8 16,.n .u8 0,.n .u8 5,.n .u8 0,.n .u8 1,.n .u8 2,.a .u8 0 [1,0],.a .u8 0 [0,1]])],faD,.tup [.agg [.n .i64 16,.n .i64 5,.n .i64 1,.n .i64 0,.n .i64 0,.v (.slice none 0 0),.sl 1 4 0 1 (some 1),.n .u16 0,.n .u16 0],.n .i64 0],5,[(4,.cells [.a .u16 0 [256,1]])],none⟩
def fa18 : TRule := ⟨192,[.sl 4 0 0 2 (some 2),.n .i64 3,.n .i64 5,.n .i64 1],1,[.arg 0 0],[(0,.cells [.n .i64 3,.n .i64 0,.n .i64 128,.n .i64 40,.n .i64 0,.n .i64 0,.n .i64 128,.n .i64 40])],D0,.tup [.sl 3 55 0 1 (some 1),.b true],56,[(55,.cells [.n .i64 5,.n .i64 133,.n .i64 1])],some []⟩
def fa19 : TRule := ⟨172,[.agg [.n .i64 2,.n .u32 12812670,.n .i64 3,.sl 4 0 0 2 (some 2),.sl 2 1 0 1 (some 1)],.agg [.n .i64 16,.n .i64 5,.n .i64 1,.n .i64 0,.n .i64 0,.v (.slice none 0 0),.sl 1 2 0 1 (some 1),.n .u16 0,.n .u16 0]],3,[.arg 0 3,.arg 0 4,.arg 1 6],[(0,.cells [.n .i64 3,.n .i64 0,.n .i64 128,.n .i64 40,.n .i64 0,.n .i64 0,.n .i64 128,.n .i64 40])],D0,.tup [.sl 3 59 0 1 (some 1),.v (.slice none 0 0),.b true],60,[(59,.cells [.n .i64 5,.n .i64 133,.n .i64 1])],some []⟩
def fa20 : TRule := ⟨151,[.agg [.n .i64 2,.n .u32 12812670,.n .i64 3,.sl 4 0 0 2 (some 2),.sl 2 1 0 1 (some 1)],.agg [.n .i64 16,.n .i64 5,.n .i64 1,.n .i64 0,.n .i64 0,.v (.slice none 0 0),.sl 1 2 0 1 (some 1),.n .u16 0,.n .u16 0]],3,[.arg 0 3,.arg 0 4,.arg 1 6],[(0,.cells [.n .i64 3,.n .i64 0,.n .i64 128,.n .i64 40,.n .i64 0,.n .i64 0,.n .i64 128,.n .i64 40]),(2,.cells [.a .u16 0 [256,1]])],faD,.tup [.sl 10 127 0 1 (some 1),.n .i64 0],128,[(125,.cells [.a .u16 0 [256,1]]),(127,.cells [.n .i64 16,.n .i64 133,.n .i64 1,.n .i64 0,.n .i64 0,.v (.slice none 0 0),.sl 1 125 0 1 (some 1),.n .u16 0,.n .u16 0,.b true])],none⟩
def fa21 : TRule := ⟨41,[.agg [.n .i64 16,.n .i64 133,.n .i64 1,.n .i64 0,.n .i64 0,.v (.slice none 0 0),.sl 1 0 0 1 (some 1),.n .u16 0,.n .u16 0]],1,[.arg 0 6],[],D0,.n .i64 0,1,[],some []⟩
def fa22 : TRule := ⟨31,[.agg [.n .i64 16,.n .i64 133,.n .i64 1,.n .i64 0,.n .i64 0,.v (.slice none 0 0),.sl 1 0 0 1 (some 1),.n .u16 0,.n .u16 0]],1,[.arg 0 6],[(0,.cells [.a .u16 0 [256,1]])],faD,.tup [.sl 1 15 0 8 (some 8),.n .i64 0],16,[(15,.cells [.n .u8 16,.n .u8 0,.n .u8 133,.n .u8 0,.n .u8 1,.n .u8 2,.a .u8 0 [1,0],.a .u8 0 [0,1]])],none⟩
def fa23 : TRule := ⟨194,[.agg [.n .i64 16,.n .i64 133,.n .i64 1,.n .i64 0,.n .i64 0,.v (.slice none 0 0),.sl 1 0 0 1 (some 1),.n .u16 0,.n .u16 0]],1,[.arg 0 6],[(0,.cells [.a .u16 0 [256,1]])],faD,.sl 1 20 0 11 none,21,[(20,.cells [.n .u8 17,.n .u8 16,.n .u8 0,.n .u8 133,.n .u8 0,.n .u8 1,.n .u8 2,.a .u8 0 [1,0],.a .u8 0 [0,1],.a .u8 0 [0,0,0,1],.a .u8 0 [0,0,1,0]])],none⟩
def fa24 : TRule := ⟨204,[.sl 1 0 0 11 none],1,[.arg 0 0],[(0,.cells [.n .u8 17,.n .u8 16,.n .u8 0,.n .u8 133,.n .u8 0,.n .u8 1,.n .u8 2,.a .u8 0 [1,0],.a .u8 0 [0,1],.a .u8 0 [0,0,0,1],.a .u8 0 [0,0,1,0]])],faD,.tup [.n .i64 17,.sl 1 4 1 8 (some 8),.n .i64 0],5,[(4,.cells [.n .u8 17,.n .u8 16,.n .u8 0,.n .u8 133,.n .u8 0,.n .u8 1,.n .u8 2,.a .u8 0 [1,0],.a .u8 0 [0,1]])],none⟩
def fa25 : TRule := ⟨150,[.sl 1 0 1 8 (some 8)],1,[.arg 0 0],[(0,.cells [.n .u8 17,.n .u8 16,.n .u8 0,.n .u8 133,.n .u8 0,.n .u8 1,.n .u8 2,.a .u8 0 [1,0],.a .u8 0 [0,1]])],faD,.tup [.agg [.n .i64 16,.n .i64 133,.n .i64 1,.n .i64 0,.n .i64 0,.v (.slice none 0 0),.sl 1 4 0 1 (some 1),.n .u16 0,.n .u16 0],.n .i64 0],5,[(4,.cells [.a .u16 0 [256,1]])],none⟩
def fa26 : TRule := ⟨89,[.agg [.n .i64 16,.n .i64 0,.n .i64 133,.n .i64 1,.n .i64 0,.v (.slice none 0 0),.v (.slice none 0 0),.n .u16 0,.n .u16 0,.v (.slice none 0 0)]],0,[],[],D0,.n .i64 0,0,[],some []⟩
def fa27 : TRule := ⟨56,[.agg [.n .i64 16,.n .i64 0,.n .i64 133,.n .i64 1,.n .i64 0,.v (.slice none 0 0),.v (.slice none 0 0),.n .u16 0,.n .u16 0,.v (.slice none 0 0)]],0,[],[],D0,.tup [.sl 1 9 0 5 (some 5),.n .i64 0],10,[(9,.cells [.n .u8 16,.n .u8 0,.n .u8 133,.n .u8 0,.n .u8 1])],some []⟩
def fa28 : TRule := ⟨220,[.ptr 0 0,.sl 1 1 1 8 (some 8)],7,[.arg 0 0,.arg 1 0,.cell 0 0,.cell 2 0,.cell 2 1,.cell 2 2,.cell 2 3],[(0,.cells [.ptr 2 0,.n .u8 0,.n .i64 0,.n .i64 0]),(1,.cells [.n .u8 17,.n .u8 16,.n .u8 0,.n .u8 133,.n .u8 0,.n .u8 1,.n .u8 2,.a .u8 0 [1,0],.a .u8 0 [0,1]]),(2,.cells [.sl 1 3 0 512 (some 512),.sl 1 4 0 512 (some 512),.sl 1 5 0 512 (some 512),.sl 1 6 0 512 (some 512)]),(6,.cells (rpt 512 [.n .u16 0]))],faD,.sl 1 29 0 5 (some 5),30,[(0,.cells [.ptr 2 0,.n .u8 0,.n .i64 1,.n .i64 0]),(6,.cells (app (rpt 133 [.n .u16 0]) (app [.a .u16 0 [256,1]] (rpt 378 [.n .u16 0])))),(29,.cells [.n .u8 16,.n .u8 0,.n .u8 133,.n .u8 0,.n .u8 1])],none⟩
def fa29 : TRule := ⟨219,[.sl 1 0 0 5 (some 5)],1,[.arg 0 0],[(0,.cells [.n .u8 16,.n .u8 0,.n .u8 133,.n .u8 0,.n .u8 1])],D0,.sl 1 4 0 8 none,5,[(4,.cells [.n .u8 17,.n .u8 16,.n .u8 0,.n .u8 133,.n .u8 0,.n .u8 1,.n .u8 18,.n .u8 176])],some []⟩
def fa30 : TRule := ⟨213,[.ptr 0 0,.sl 1 1 1 8 (some 8)],10,[.arg 0 0,.arg 1 0,.cell 0 0,.cell 0 2,.cell 0 5,.cell 2 0,.cell 5 0,.cell 5 1,.cell 5 2,.cell 5 3],[(0,.cells [.ptr 2 0,.v (.slice none 0 0),.sl 1 3 3 0 none,.v (.slice none 0 0),.v (.slice none 0 0),.sl 3 4 0 3 none]),(1,.cells [.n .u8 17,.n .u8 16,.n .u8 0,.n .u8 133,.n .u8 0,.n .u8 1,.n .u8 2,.a .u8 0 [1,0],.a .u8 0 [0,1]]),(2,.cells [.ptr 5 0,.n .u8 0,.n .i64 0,.n .i64 0]),(5,.cells [.sl 1 6 0 512 (some 512),.sl 1 7 0 512 (some 512),.sl 1 8 0 512 (some 512),.sl 1 9 0 512 (some 512)]),(9,.cells (rpt 512 [.n .u16 0]))],faD,.sl 1 36 0 8 none,37,[(2,.cells [.ptr 5 0,.n .u8 0,.n .i64 1,.n .i64 0]),(9,.cells (app (rpt 133 [.n .u16 0]) (app [.a .u16 0 [256,1]] (rpt 378 [.n .u16 0])))),(36,.cells [.n .u8 17,.n .u8 16,.n .u8 0,.n .u8 133,.n .u8 0,.n .u8 1,.n .u8 18,.n .u8 176])],none⟩
def fa31 : TRule := ⟨195,[.sl 1 0 0 8 (some 8),.agg [.n .i64 16,.n .i64 133,.n .i64 1,.n .i64 0,.n .i64 0,.v (.slice none 0 0),.sl 1 1 0 1 (some 1),.n .u16 0,.n .u16 0]],2,[.arg 0 0,.arg 1 6],[(0,.cells [.n .u8 17,.n .u8 16,.n .u8 0,.n .u8 133,.n .u8 0,.n .u8 1,.n .u8 18,.n .u8 176])],D0,.tup [.agg [.n .i64 16,.n .i64 0,.n .i64 133,.n .i64 1,.n .i64 0,.v (.slice none 0 0),.v (.slice none 0 0),.n .u16 0,.n .u16 0,.v (.slice none 0 0)],.b true],2,[],some []⟩
def fa32 : TRule := ⟨154,[.agg [.n .i64 2,.n .u32 12812670,.n .i64 3,.sl 4 0 0 2 (some 2),.sl 2 1 0 1 (some 1)],.agg [.n .i64 16,.n .i64 5,.n .i64 1,.n .i64 0,.n .i64 0,.v (.slice none 0 0),.sl 1 2 0 1 (some 1),.n .u16 0,.n .u16 0],.sl 10 3 0 1 none],4,[.arg 0 3,.arg 0 4,.arg 1 6,.arg 2 0],[(0,.cells [.n .i64 3,.n .i64 0,.n .i64 128,.n .i64 40,.n .i64 0,.n .i64 0,.n .i64 128,.n .i64 40]),(2,.cells [.a .u16 0 [256,1]]),(3,.cells [.n .i64 16,.n .i64 0,.n .i64 133,.n .i64 1,.n .i64 0,.v (.slice none 0 0),.v (.slice none 0 0),.n .u16 0,.n .u16 0,.v (.slice none 0 0)])],faD,.agg [.n .i64 16,.n .i64 0,.n .i64 5,.n .i64 1,.n .i64 0,.v (.slice none 0 0),.v (.slice none 0 0),.n .u16 0,.n .u16 0,.v (.slice none 0 0)],4,[],none⟩
def fa33 : TRule := ⟨56,[.agg [.n .i64 16,.n .i64 0,.n .i64 5,.n .i64 1,.n .i64 0,.v (.slice none 0 0),.v (.slice none 0 0),.n .u16 0,.n .u16 0,.v (.slice none 0 0)]],0,[],[],D0,.tup [.sl 1 15 0 5 (some 5),.n .i64 0],16,[(15,.cells [.n .u8 16,.n .u8 0,.n .u8 5,.n .u8 0,.n .u8 1])],some []⟩
def fa34 : TRule := ⟨32,[.agg [.n .i64 7,.n .i64 2,.sl 1 0 0 5 (some 5)]],1,[.arg 0 2],[(0,.cells [.n .u8 16,.n .u8 0,.n .u8 5,.n .u8 0,.n .u8 1])],D0,.sl 1 14 0 12 (some 12),15,[(14,.cells [.n .u8 0,.n .u8 7,.n .u8 0,.n .u8 0,.n .u8 0,.n .u8 6,.n .u8 2,.n .u8 16,.n .u8 0,.n .u8 5,.n .u8 0,.n .u8 1])],some []⟩
def fa35 : TRule := ⟨55,[.ptr 0 0,.n .i64 143,.n .i64 0],1,[.arg 0 0],[(0,.cells [.v (.slice none 0 0),.n .i64 0])],D0,.n .i64 0,4,[(0,.cells [.sl 3 3 0 1 none,.n .i64 1]),(3,.cells [.n .i64 143,.n .i64 0,.n .i64 0])],some []⟩
def fa36 : TRule := ⟨29,[.ptr 0 0,.n .i64 1,.sl 1 1 0 12 (some 12),.n .i64 143],7,[.arg 0 0,.arg 2 0,.cell 0 1,.cell 0 5,.cell 0 6,.cell 0 7,.cell 0 8],[(0,.cells [.n .i64 144,.sl 5 2 0 2 (some 2),.n .i64 0,.n .i64 72,.v (.pointer none),.ptr 3 0,.sl 3 4 0 2 none,.ptr 5 0,.mp 6,.n .i64 0]),(5,.cells [.v (.slice none 0 0),.n .i64 0]),(6,.map [])],D0,.tup [],10,[(0,.cells [.n .i64 144,.sl 5 2 0 2 (some 2),.n .i64 0,.n .i64 72,.v (.pointer none),.ptr 3 0,.sl 3 4 0 2 none,.ptr 5 0,.mp 6,.n .i64 1]),(5,.cells [.sl 3 9 0 1 none,.n .i64 1]),(6,.map [(.n .i64 0,.agg [.n .i64 0,.n .i64 1,.n .i64 1,.sl 1 1 0 12 (some 12)])]),(9,.cells [.n .i64 143,.n .i64 0,.n .i64 0])],some []⟩
def fa37 : TRule := ⟨11,[.ptr 0 0,.n .i64 1],18,[.arg 0 0,.cell 0 1,.cell 0 5,.cell 0 6,.cell 0 7,.cell 0 8,.cell 1 3,.cell 1 4,.cell 1 8,.cell 1 9,.cell 3 0,.cell 3 1,.cell 3 2,.cell 3 3,.cell 3 4,.cell 3 5,.cell 4 0,.cell 14 0],[(0,.cells [.n .i64 144,.sl 5 1 0 2 (some 2),.n .i64 0,.a .i64 0 [0,0,0,0,0,0,0,0,0,1],.v (.pointer none),.ptr 2 0,.sl 3 3 0 2 none,.ptr 4 0,.mp 5,.n .i64 1]),(1,.cells [.n .i64 1,.n .u32 12812670,.n .i64 2,.sl 4 6 0 2 (some 2),.sl 2 7 0 1 (some 1),.n .i64 2,.n .u32 12812670,.n .i64 3,.sl 4 8 0 2 (some 2),.sl 2 9 0 1 (some 1)]),(3,.cells [.ptr 10 0,.ptr 11 0,.ptr 12 0,.ptr 13 0,.ptr 14 0,.ptr 15 0]),(4,.cells [.sl 3 16 0 1 none,.n .i64 1]),(6,.cells [.n .i64 3,.n .i64 0,.n .i64 0,.n .i64 40,.n .i64 0,.n .i64 0,.n .i64 0,.n .i64 40]),(7,.cells [.n .i64 0,.n .i64 72]),(8,.cells [.n .i64 3,.n .i64 0,.n .i64 128,.n .i64 40,.n .i64 0,.n .i64 0,.n .i64 128,.n .i64 40]),(9,.cells [.n .i64 72,.n .i64 72]),(11,.cells [.v (.slice none 0 0),.n .i64 2,.n .i64 0]),(14,.cells [.sl 3 17 0 0 (some 0),.n .i64 3,.n .i64 0]),(16,.cells [.n .i64 143,.n .i64 0,.n .i64 0])],faC37,.v (.slice none 0 0),18,[(0,.cells [.n .i64 144,.sl 5 1 0 2 (some 2),.n .i64 0,.a .i64 1 [0,0,0,0,0,0,0,0,0,1],.v (.pointer none),.ptr 2 0,.sl 3 3 0 2 none,.ptr 4 0,.mp 5,.n .i64 1])],some [.own 0,.own 1,.own 2,.own 3,.own 4,.own 5,.own 6,.own 7,.own 8,.cell 0 3]⟩
def fa38 : TRule := ⟨33,[.ptr 0 0,.n .i64 143],18,[.arg 0 0,.cell 0 1,.cell 0 5,.cell 0 6,.cell 0 7,.cell 0 8,.cell 1 3,.cell 1 4,.cell 1 8,.cell 1 9,.cell 3 0,.cell 3 1,.cell 3 2,.cell 3 3,.cell 3 4,.cell 3 5,.cell 4 0,.cell 14 0],[(0,.cells [.n .i64 144,.sl 5 1 0 2 (some 2),.n .i64 0,.n .i64 142,.v (.pointer none),.ptr 2 0,.sl 3 3 0 2 none,.ptr 4 0,.mp 5,.n .i64 1]),(1,.cells [.n .i64 1,.n .u32 12812670,.n .i64 2,.sl 4 6 0 2 (some 2),.sl 2 7 0 1 (some 1),.n .i64 2,.n .u32 12812670,.n .i64 3,.sl 4 8 0 2 (some 2),.sl 2 9 0 1 (some 1)]),(3,.cells [.ptr 10 0,.ptr 11 0,.ptr 12 0,.ptr 13 0,.ptr 14 0,.ptr 15 0]),(4,.cells [.sl 3 16 0 1 none,.n .i64 1]),(6,.cells [.n .i64 3,.n .i64 0,.n .i64 0,.n .i64 40,.n .i64 0,.n .i64 0,.n .i64 0,.n .i64 40]),(7,.cells [.n .i64 0,.n .i64 72]),(8,.cells [.n .i64 3,.n .i64 0,.n .i64 128,.n .i64 40,.n .i64 0,.n .i64 0,.n .i64 128,.n .i64 40]),(9,.cells [.n .i64 72,.n .i64 72]),(11,.cells [.v (.slice none 0 0),.n .i64 2,.n .i64 0]),(14,.cells [.sl 3 17 0 0 (some 0),.n .i64 3,.n .i64 0]),(16,.cells [.n .i64 143,.n .i64 0,.n .i64 0])],D0,.n .i64 143,18,[],some []⟩
def fa39 : TRule := ⟨66,[.ptr 0 0],10,[.arg 0 0,.cell 0 1,.cell 0 5,.cell 0 6,.cell 0 7,.cell 0 8,.cell 1 3,.cell 1 4,.cell 1 8,.cell 1 9],[(0,.cells [.n .i64 144,.sl 5 1 0 2 (some 2),.n .i64 0,.n .i64 143,.v (.pointer none),.ptr 2 0,.sl 3 3 0 2 none,.ptr 4 0,.mp 5,.n .i64 1]),(1,.cells [.n .i64 1,.n .u32 12812670,.n .i64 2,.sl 4 6 0 2 (some 2),.sl 2 7 0 1 (some 1),.n .i64 2,.n .u32 12812670,.n .i64 3,.sl 4 8 0 2 (some 2),.sl 2 9 0 1 (some 1)]),(6,.cells [.n .i64 3,.n .i64 0,.n .i64 0,.n .i64 40,.n .i64 0,.n .i64 0,.n .i64 0,.n .i64 40]),(7,.cells [.n .i64 0,.n .i64 72]),(8,.cells [.n .i64 3,.n .i64 0,.n .i64 128,.n .i64 40,.n .i64 0,.n .i64 0,.n .i64 128,.n .i64 40]),(9,.cells [.n .i64 72,.n .i64 72])],D0,.tup [],10,[],some []⟩
def fa40 : TRule := ⟨11,[.ptr 0 0,.n .i64 1],19,[.arg 0 0,.cell 0 1,.cell 0 5,.cell 0 6,.cell 0 7,.cell 0 8,.cell 1 3,.cell 1 4,.cell 1 8,.cell 1 9,.cell 3 0,.cell 3 1,.cell 3 2,.cell 3 3,.cell 3 4,.cell 3 5,.cell 4 0,.cell 5 4,.cell 14 0],[(0,.cells [.n .i64 144,.sl 5 1 0 2 (some 2),.n .i64 0,.n .i64 142,.v (.pointer none),.ptr 2 0,.sl 3 3 0 2 none,.ptr 4 0,.mp 5,.n .i64 1]),(1,.cells [.n .i64 1,.n .u32 12812670,.n .i64 2,.sl 4 6 0 2 (some 2),.sl 2 7 0 1 (some 1),.n .i64 2,.n .u32 12812670,.n .i64 3,.sl 4 8 0 2 (some 2),.sl 2 9 0 1 (some 1)]),(3,.cells [.ptr 10 0,.ptr 11 0,.ptr 12 0,.ptr 13 0,.ptr 14 0,.ptr 15 0]),(4,.cells [.sl 3 16 0 1 none,.n .i64 1]),(5,.map [(.n .i64 0,.agg [.n .i64 0,.n .i64 1,.n .i64 1,.sl 1 17 0 12 (some 12)])]),(6,.cells [.n .i64 3,.n .i64 0,.n .i64 0,.n .i64 40,.n .i64 0,.n .i64 0,.n .i64 0,.n .i64 40]),(7,.cells [.n .i64 0,.n .i64 72]),(8,.cells [.n .i64 3,.n .i64 0,.n .i64 128,.n .i64 40,.n .i64 0,.n .i64 0,.n .i64 128,.n .i64 40]),(9,.cells [.n .i64 72,.n .i64 72]),(11,.cells [.v (.slice none 0 0),.n .i64 2,.n .i64 0]),(14,.cells [.sl 3 18 0 0 (some 0),.n .i64 3,.n .i64 0]),(16,.cells [.n .i64 143,.n .i64 0,.n .i64 0])],D0,.sl 4 27 0 1 (some 1),28,[(0,.cells [.n .i64 144,.sl 5 1 0 2 (some 2),.n .i64 0,.n .i64 143,.v (.pointer none),.ptr 2 0,.sl 3 3 0 2 none,.ptr 4 0,.mp 5,.n .i64 1]),(4,.cells [.sl 3 16 0 0 none,.n .i64 1]),(5,.map []),(27,.cells [.n .i64 143,.n .i64 1,.n .i64 1,.sl 1 17 0 12 (some 12)])],some []⟩
def fa41 : TRule := ⟨37,[.sl 1 0 7 5 (some 5),.agg [.n .i64 16,.n .i64 5,.n .i64 1,.n .i64 0,.n .i64 0,.v (.slice none 0 0),.sl 1 1 0 1 (some 1),.n .u16 0,.n .u16 0]],2,[.arg 0 0,.arg 1 6],[(0,.cells [.n .u8 0,.n .u8 7,.n .u8 0,.n .u8 0,.n .u8 0,.n .u8 6,.n .u8 2,.n .u8 16,.n .u8 0,.n .u8 5,.n .u8 0,.n .u8 1])],D0,.tup [.agg [.n .i64 16,.n .i64 0,.n .i64 5,.n .i64 1,.n .i64 0,.v (.slice none 0 0),.v (.slice none 0 0),.n .u16 0,.n .u16 0,.v (.slice none 0 0)],.n .i64 0],2,[],some []⟩
def fa42 : TRule := ⟨41,[.agg [.n .i64 3,.n .i64 5,.n .i64 1,.n .i64 0,.n .i64 0,.v (.slice none 0 0),.v (.slice none 0 0),.n .u16 0,.n .u16 0]],0,[],[],D0,.n .i64 0,0,[],some []⟩
def fa43 : TRule := ⟨9,[.n .i64 7,.n .i64 2,.agg [.n .i64 3,.n .i64 5,.n .i64 1,.n .i64 0,.n .i64 0,.v (.slice none 0 0),.v (.slice none 0 0),.n .u16 0,.n .u16 0]],0,[],[],D0,.sl 1 24 0 12 (some 12),25,[(24,.cells [.n .u8 0,.n .u8 7,.n .u8 0,.n .u8 0,.n .u8 0,.n .u8 6,.n .u8 2,.n .u8 3,.n .u8 0,.n .u8 5,.n .u8 0,.n .u8 1])],some []⟩
def fa44 : TRule := ⟨8,[.ptr 0 0,.n .i64 1,.sl 1 1 0 12 (some 12)],15,[.arg 0 0,.arg 2 0,.cell 0 1,.cell 0 5,.cell 0 6,.cell 0 7,.cell 0 8,.cell 4 0,.cell 4 1,.cell 4 2,.cell 4 3,.cell 4 4,.cell 4 5,.cell 11 0,.cell 12 0],[(0,.cells [.n .i64 144,.sl 5 2 0 2 (some 2),.n .i64 0,.n .i64 143,.v (.pointer none),.ptr 3 0,.sl 3 4 0 2 none,.ptr 5 0,.mp 6,.n .i64 1]),(1,.cells [.n .u8 0,.n .u8 7,.n .u8 0,.n .u8 0,.n .u8 0,.n .u8 6,.n .u8 2,.n .u8 3,.n .u8 0,.n .u8 5,.n .u8 0,.n .u8 1]),(4,.cells [.ptr 7 0,.ptr 8 0,.ptr 9 0,.ptr 10 0,.ptr 11 0,.ptr 12 0]),(11,.cells [.sl 3 13 0 0 (some 0),.n .i64 3,.n .i64 0]),(12,.cells [.sl 1 14 0 0 (some 0),.b false]),(13,.cells []),(14,.cells [])],D0,.v (.slice none 0 0),30,[(11,.cells [.sl 3 29 0 1 none,.n .i64 3,.n .i64 0]),(12,.cells [.sl 1 21 0 0 (some 0),.b false]),(21,.cells []),(27,.cells [.n .u8 3,.n .u8 0,.n .u8 5,.n .u8 0,.n .u8 1]),(29,.cells [.n .i64 7,.n .i64 2,.sl 1 27 0 5 (some 5)])],some []⟩
def fa45 : TRule := ⟨11,[.ptr 0 0,.n .i64 1],18,[.arg 0 0,.cell 0 1,.cell 0 5,.cell 0 6,.cell 0 7,.cell 0 8,.cell 1 3,.cell 1 4,.cell 1 8,.cell 1 9,.cell 3 0,.cell 3 1,.cell 3 2,.cell 3 3,.cell 3 4,.cell 3 5,.cell 4 0,.cell 14 0],[(0,.cells [.n .i64 144,.sl 5 1 0 2 (some 2),.n .i64 0,.n .i64 143,.v (.pointer none),.ptr 2 0,.sl 3 3 0 2 none,.ptr 4 0,.mp 5,.n .i64 1]),(1,.cells [.n .i64 1,.n .u32 12812670,.n .i64 2,.sl 4 6 0 2 (some 2),.sl 2 7 0 1 (some 1),.n .i64 2,.n .u32 12812670,.n .i64 3,.sl 4 8 0 2 (some 2),.sl 2 9 0 1 (some 1)]),(3,.cells [.ptr 10 0,.ptr 11 0,.ptr 12 0,.ptr 13 0,.ptr 14 0,.ptr 15 0]),(4,.cells [.sl 3 16 0 0 none,.n .i64 1]),(6,.cells [.n .i64 3,.n .i64 0,.n .i64 0,.n .i64 40,.n .i64 0,.n .i64 0,.n .i64 0,.n .i64 40]),(7,.cells [.n .i64 0,.n .i64 72]),(8,.cells [.n .i64 3,.n .i64 0,.n .i64 128,.n .i64 40,.n .i64 0,.n .i64 0,.n .i64 128,.n .i64 40]),(9,.cells [.n .i64 72,.n .i64 72]),(11,.cells [.v (.slice none 0 0),.n .i64 2,.n .i64 0]),(14,.cells [.sl 3 17 0 1 none,.n .i64 3,.n .i64 0])],D0,.v (.slice none 0 0),18,[(0,.cells [.n .i64 144,.sl 5 1 0 2 (some 2),.n .i64 0,.n .i64 144,.v (.pointer none),.ptr 2 0,.sl 3 3 0 2 none,.ptr 4 0,.mp 5,.n .i64 1])],some []⟩
def fa46 : TRule := ⟨11,[.ptr 0 0,.n .i64 1],18,[.arg 0 0,.cell 0 1,.cell 0 5,.cell 0 6,.cell 0 7,.cell 0 8,.cell 1 3,.cell 1 4,.cell 1 8,.cell 1 9,.cell 3 0,.cell 3 1,.cell 3 2,.cell 3 3,.cell 3 4,.cell 3 5,.cell 4 0,.cell 14 0],[(0,.cells [.n .i64 144,.sl 5 1 0 2 (some 2),.n .i64 0,.a .i64 0 [0,0,0,0,0,0,0,0,0,1],.v (.pointer none),.ptr 2 0,.sl 3 3 0 2 none,.ptr 4 0,.mp 5,.n .i64 1]),(1,.cells [.n .i64 1,.n .u32 12812670,.n .i64 2,.sl 4 6 0 2 (some 2),.sl 2 7 0 1 (some 1),.n .i64 2,.n .u32 12812670,.n .i64 3,.sl 4 8 0 2 (some 2),.sl 2 9 0 1 (some 1)]),(3,.cells [.ptr 10 0,.ptr 11 0,.ptr 12 0,.ptr 13 0,.ptr 14 0,.ptr 15 0]),(4,.cells [.sl 3 16 0 0 none,.n .i64 1]),(6,.cells [.n .i64 3,.n .i64 0,.n .i64 0,.n .i64 40,.n .i64 0,.n .i64 0,.n .i64 0,.n .i64 40]),(7,.cells [.n .i64 0,.n .i64 72]),(8,.cells [.n .i64 3,.n .i64 0,.n .i64 128,.n .i64 40,.n .i64 0,.n .i64 0,.n .i64 128,.n .i64 40]),(9,.cells [.n .i64 72,.n .i64 72]),(11,.cells [.v (.slice none 0 0),.n .i64 2,.n .i64 0]),(14,.cells [.sl 3 17 0 1 none,.n .i64 3,.n .i64 0])],faC46,.v (.slice none 0 0),18,[(0,.cells [.n .i64 144,.sl 5 1 0 2 (some 2),.n .i64 0,.a .i64 1 [0,0,0,0,0,0,0,0,0,1],.v (.pointer none),.ptr 2 0,.sl 3 3 0 2 none,.ptr 4 0,.mp 5,.n .i64 1])],some [.own 0,.own 1,.own 2,.own 3,.own 4,.own 5,.own 6,.own 7,.own 8,.cell 0 3]⟩
def fa47 : TRule := ⟨33,[.ptr 0 0,.n .i64 216],18,[.arg 0 0,.cell 0 1,.cell 0 5,.cell 0 6,.cell 0 7,.cell 0 8,.cell 1 3,.cell 1 4,.cell 1 8,.cell 1 9,.cell 3 0,.cell 3 1,.cell 3 2,.cell 3 3,.cell 3 4,.cell 3 5,.cell 4 0,.cell 14 0],[(0,.cells [.n .i64 144,.sl 5 1 0 2 (some 2),.n .i64 0,.n .i64 215,.v (.pointer none),.ptr 2 0,.sl 3 3 0 2 none,.ptr 4 0,.mp 5,.n .i64 1]),(1,.cells [.n .i64 1,.n .u32 12812670,.n .i64 2,.sl 4 6 0 2 (some 2),.sl 2 7 0 1 (some 1),.n .i64 2,.n .u32 12812670,.n .i64 3,.sl 4 8 0 2 (some 2),.sl 2 9 0 1 (some 1)]),(3,.cells [.ptr 10 0,.ptr 11 0,.ptr 12 0,.ptr 13 0,.ptr 14 0,.ptr 15 0]),(4,.cells [.sl 3 16 0 0 none,.n .i64 1]),(6,.cells [.n .i64 3,.n .i64 0,.n .i64 0,.n .i64 40,.n .i64 0,.n .i64 0,.n .i64 0,.n .i64 40]),(7,.cells [.n .i64 0,.n .i64 72]),(8,.cells [.n .i64 3,.n .i64 0,.n .i64 128,.n .i64 40,.n .i64 0,.n .i64 0,.n .i64 128,.n .i64 40]),(9,.cells [.n .i64 72,.n .i64 72]),(11,.cells [.v (.slice none 0 0),.n .i64 2,.n .i64 0]),(14,.cells [.sl 3 17 0 1 none,.n .i64 3,.n .i64 0])],D0,.n .i64 216,18,[],some []⟩
def fa48 : TRule := ⟨150,[.sl 1 0 0 5 (some 5)],1,[.arg 0 0],[(0,.cells [.n .u8 3,.n .u8 0,.n .u8 5,.n .u8 0,.n .u8 1])],D0,.tup [.agg [.n .i64 3,.n .i64 5,.n .i64 1,.n .i64 0,.n .i64 0,.v (.slice none 0 0),.v (.slice none 0 0),.n .u16 0,.n .u16 0],.n .i64 0],1,[],some []⟩
def fa49 : TRule := ⟨151,[.agg [.n .i64 2,.n .u32 12812670,.n .i64 3,.sl 4 0 0 2 (some 2),.sl 2 1 0 1 (some 1)],.agg [.n .i64 3,.n .i64 5,.n .i64 1,.n .i64 0,.n .i64 0,.v (.slice none 0 0),.v (.slice none 0 0),.n .u16 0,.n .u16 0]],2,[.arg 0 3,.arg 0 4],[(0,.cells [.n .i64 3,.n .i64 0,.n .i64 128,.n .i64 40,.n .i64 0,.n .i64 0,.n .i64 128,.n .i64 40])],D0,.tup [.sl 10 125 0 1 (some 1),.n .i64 0],126,[(125,.cells [.n .i64 3,.n .i64 133,.n .i64 1,.n .i64 0,.n .i64 0,.v (.slice none 0 0),.v (.slice none 0 0),.n .u16 0,.n .u16 0,.b false])],some []⟩
def fa50 : TRule := ⟨41,[.agg [.n .i64 3,.n .i64 133,.n .i64 1,.n .i64 0,.n .i64 0,.v (.slice none 0 0),.v (.slice none 0 0),.n .u16 0,.n .u16 0]],0,[],[],D0,.n .i64 0,0,[],some []⟩
def fa51 : TRule := ⟨31,[.agg [.n .i64 3,.n .i64 133,.n .i64 1,.n .i64 0,.n .i64 0,.v (.slice none 0 0),.v (.slice none 0 0),.n .u16 0,.n .u16 0]],0,[],[],D0,.tup [.sl 1 9 0 5 (some 5),.n .i64 0],10,[(9,.cells [.n .u8 3,.n .u8 0,.n .u8 133,.n .u8 0,.n .u8 1])],some []⟩
def fa52 : TRule := ⟨194,[.agg [.n .i64 3,.n .i64 133,.n .i64 1,.n .i64 0,.n .i64 0,.v (.slice none 0 0),.v (.slice none 0 0),.n .u16 0,.n .u16 0]],0,[],[],D0,.sl 1 14 0 8 none,15,[(14,.cells [.n .u8 17,.n .u8 3,.n .u8 0,.n .u8 133,.n .u8 0,.n .u8 1,.n .u8 151,.n .u8 115])],some []⟩
def fa53 : TRule := ⟨204,[.sl 1 0 0 8 none],1,[.arg 0 0],[(0,.cells [.n .u8 17,.n .u8 3,.n .u8 0,.n .u8 133,.n .u8 0,.n .u8 1,.n .u8 151,.n .u8 115])],D0,.tup [.n .i64 17,.sl 1 4 1 5 (some 5),.n .i64 0],5,[(4,.cells [.n .u8 17,.n .u8 3,.n .u8 0,.n .u8 133,.n .u8 0,.n .u8 1])],some []⟩
def fa54 : TRule := ⟨150,[.sl 1 0 1 5 (some 5)],1,[.arg 0 0],[(0,.cells [.n .u8 17,.n .u8 3,.n .u8 0,.n .u8 133,.n .u8 0,.n .u8 1])],D0,.tup [.agg [.n .i64 3,.n .i64 133,.n .i64 1,.n .i64 0,.n .i64 0,.v (.slice none 0 0),.v (.slice none 0 0),.n .u16 0,.n .u16 0],.n .i64 0],1,[],some []⟩
def fa55 : TRule := ⟨56,[.agg [.n .i64 3,.n .i64 0,.n .i64 0,.n .i64 0,.n .i64 0,.v (.slice none 0 0),.sl 1 0 0 1 none,.n .u16 0,.n .u16 0,.v (.slice none 0 0)]],1,[.arg 0 6],[(0,.cells [.a .u16 0 [256,1]])],faD,.tup [.sl 1 12 0 4 (some 4),.n .i64 0],13,[(12,.cells [.n .u8 3,.n .u8 2,.a .u8 0 [1,0],.a .u8 0 [0,1]])],none⟩
def fa56 : TRule := ⟨89,[.agg [.n .i64 3,.n .i64 0,.n .i64 0,.n .i64 0,.n .i64 0,.v (.slice none 0 0),.sl 1 0 0 1 (some 1),.n .u16 0,.n .u16 0,.v (.slice none 0 0)]],1,[.arg 0 6],[(0,.cells [.a .u16 0 [256,1]])],faD,.n .i64 0,1,[],none⟩
def fa57 : TRule := ⟨56,[.agg [.n .i64 3,.n .i64 0,.n .i64 0,.n .i64 0,.n .i64 0,.v (.slice none 0 0),.sl 1 0 0 1 (some 1),.n .u16 0,.n .u16 0,.v (.slice none 0 0)]],1,[.arg 0 6],[(0,.cells [.a .u16 0 [256,1]])],faD,.tup [.sl 1 6 0 4 (some 4),.n .i64 0],7,[(6,.cells [.n .u8 3,.n .u8 2,.a .u8 0 [1,0],.a .u8 0 [0,1]])],none⟩
def fa58 : TRule := ⟨195,[.sl 1 0 0 7 (some 7),.agg [.n .i64 3,.n .i64 133,.n .i64 1,.n .i64 0,.n .i64 0,.v (.slice none 0 0),.v (.slice none 0 0),.n .u16 0,.n .u16 0]],1,[.arg 0 0],[(0,.cells [.n .u8 17,.n .u8 3,.n .u8 2,.a .u8 0 [1,0],.a .u8 0 [0,1],.a .u8 0 [0,0,0,0,0,1],.a .u8 0 [0,0,0,0,1,0]])],faD,.tup [.agg [.n .i64 3,.n .i64 0,.n .i64 0,.n .i64 0,.n .i64 0,.v (.slice none 0 0),.sl 1 11 0 1 (some 1),.n .u16 0,.n .u16 0,.v (.slice none 0 0)],.b true],12,[(11,.cells [.a .u16 0 [256,1]])],none⟩
def fa59 : TRule := ⟨184,[.ptr 0 0,.n .i64 1,.n .i64 216,.agg [.n .i64 3,.n .i64 133,.n .i64 1,.n .i64 0,.n .i64 0,.v (.slice none 0 0),.v (.slice none 0 0),.n .u16 0,.n .u16 0]],12,[.arg 0 0,.cell 0 0,.cell 0 2,.cell 0 5,.cell 1 0,.cell 3 2,.cell 3 5,.cell 3 8,.cell 4 0,.cell 4 1,.cell 4 2,.cell 4 3],[(0,.cells [.ptr 1 0,.v (.slice none 0 0),.sl 1 2 3 0 none,.v (.slice none 0 0),.v (.slice none 0 0),.sl 3 3 0 3 none]),(1,.cells [.ptr 4 0,.n .u8 0,.n .i64 1,.n .i64 0]),(3,.cells [.n .i64 72,.n .i64 1,.sl 1 5 0 11 none,.n .i64 76,.n .i64 1,.sl 1 6 0 11 none,.n .i64 80,.n .i64 1,.sl 1 7 0 11 none]),(4,.cells [.sl 1 8 0 512 (some 512),.sl 1 9 0 512 (some 512),.sl 1 10 0 512 (some 512),.sl 1 11 0 512 (some 512)]),(11,.cells (app (rpt 133 [.n .u16 0]) (app [.a .u16 0 [256,1]] (rpt 378 [.n .u16 0]))))],faD,.tup [.agg [.n .i64 3,.n .i64 0,.n .i64 0,.n .i64 0,.n .i64 0,.v (.slice none 0 0),.sl 1 75 0 1 (some 1),.n .u16 0,.n .u16 0,.v (.slice none 0 0)],.n .i64 0],76,[(0,.cells [.ptr 1 0,.v (.slice none 0 0),.sl 1 2 3 0 none,.v (.slice none 0 0),.v (.slice none 0 0),.sl 3 32 0 4 none]),(1,.cells [.ptr 4 0,.n .u8 0,.n .i64 2,.n .i64 0]),(3,.dead),(30,.cells [.n .u8 17,.n .u8 3,.n .u8 0,.n .u8 133,.n .u8 0,.n .u8 1,.n .u8 151,.n .u8 115]),(32,.cells [.n .i64 72,.n .i64 1,.sl 1 5 0 11 none,.n .i64 76,.n .i64 1,.sl 1 6 0 11 none,.n .i64 80,.n .i64 1,.sl 1 7 0 11 none,.n .i64 216,.n .i64 1,.sl 1 30 0 8 none]),(75,.cells [.a .u16 0 [256,1]])],none⟩
def fa60 : TRule := ⟨154,[.agg [.n .i64 2,.n .u32 12812670,.n .i64 3,.sl 4 0 0 2 (some 2),.sl 2 1 0 1 (some 1)],.agg [.n .i64 3,.n .i64 5,.n .i64 1,.n .i64 0,.n .i64 0,.v (.slice none 0 0),.v (.slice none 0 0),.n .u16 0,.n .u16 0],.sl 10 2 0 1 none],4,[.arg 0 3,.arg 0 4,.arg 2 0,.cell 2 6],[(0,.cells [.n .i64 3,.n .i64 0,.n .i64 128,.n .i64 40,.n .i64 0,.n .i64 0,.n .i64 128,.n .i64 40]),(2,.cells [.n .i64 3,.n .i64 0,.n .i64 0,.n .i64 0,.n .i64 0,.v (.slice none 0 0),.sl 1 3 0 1 (some 1),.n .u16 0,.n .u16 0,.v (.slice none 0 0)]),(3,.cells [.a .u16 0 [256,1]])],faD,.agg [.n .i64 3,.n .i64 0,.n .i64 0,.n .i64 0,.n .i64 0,.v (.slice none 0 0),.sl 1 135 0 1 (some 1),.n .u16 0,.n .u16 0,.v (.slice none 0 0)],136,[(135,.cells [.a .u16 0 [256,1]])],none⟩
def fa61 : TRule := ⟨32,[.agg [.n .i64 7,.n .i64 2,.sl 1 0 0 4 (some 4)]],1,[.arg 0 2],[(0,.cells [.n .u8 3,.n .u8 2,.a .u8 0 [1,0],.a .u8 0 [0,1]])],faD,.sl 1 14 0 11 (some 11),15,[(14,.cells [.n .u8 0,.n .u8 7,.n .u8 0,.n .u8 0,.n .u8 0,.n .u8 5,.n .u8 2,.n .u8 3,.n .u8 2,.a .u8 0 [1,0],.a .u8 0 [0,1]])],none⟩
def fa62 : TRule := ⟨29,[.ptr 0 0,.n .i64 1,.sl 1 1 0 11 (some 11),.n .i64 287],8,[.arg 0 0,.arg 2 0,.cell 0 1,.cell 0 5,.cell 0 6,.cell 0 7,.cell 0 8,.cell 5 0],[(0,.cells [.n .i64 144,.sl 5 2 0 2 (some 2),.n .i64 0,.n .i64 216,.v (.pointer none),.ptr 3 0,.sl 3 4 0 2 none,.ptr 5 0,.mp 6,.n .i64 1]),(5,.cells [.sl 3 7 0 0 none,.n .i64 1]),(6,.map []),(7,.cells [.n .i64 143,.n .i64 0,.n .i64 0])],D0,.tup [],11,[(0,.cells [.n .i64 144,.sl 5 2 0 2 (some 2),.n .i64 0,.n .i64 216,.v (.pointer none),.ptr 3 0,.sl 3 4 0 2 none,.ptr 5 0,.mp 6,.n .i64 2]),(5,.cells [.sl 3 10 0 1 none,.n .i64 2]),(6,.map [(.n .i64 1,.agg [.n .i64 0,.n .i64 1,.n .i64 1,.sl 1 1 0 11 (some 11)])]),(7,.dead),(10,.cells [.n .i64 287,.n .i64 1,.n .i64 1])],some []⟩
def fa63 : TRule := ⟨11,[.ptr 0 0,.n .i64 1],18,[.arg 0 0,.cell 0 1,.cell 0 5,.cell 0 6,.cell 0 7,.cell 0 8,.cell 1 3,.cell 1 4,.cell 1 8,.cell 1 9,.cell 3 0,.cell 3 1,.cell 3 2,.cell 3 3,.cell 3 4,.cell 3 5,.cell 4 0,.cell 14 0],[(0,.cells [.n .i64 144,.sl 5 1 0 2 (some 2),.n .i64 0,.a .i64 0 [0,0,0,0,0,0,0,0,0,1],.v (.pointer none),.ptr 2 0,.sl 3 3 0 2 none,.ptr 4 0,.mp 5,.n .i64 2]),(1,.cells [.n .i64 1,.n .u32 12812670,.n .i64 2,.sl 4 6 0 2 (some 2),.sl 2 7 0 1 (some 1),.n .i64 2,.n .u32 12812670,.n .i64 3,.sl 4 8 0 2 (some 2),.sl 2 9 0 1 (some 1)]),(3,.cells [.ptr 10 0,.ptr 11 0,.ptr 12 0,.ptr 13 0,.ptr 14 0,.ptr 15 0]),(4,.cells [.sl 3 16 0 1 none,.n .i64 2]),(6,.cells [.n .i64 3,.n .i64 0,.n .i64 0,.n .i64 40,.n .i64 0,.n .i64 0,.n .i64 0,.n .i64 40]),(7,.cells [.n .i64 0,.n .i64 72]),(8,.cells [.n .i64 3,.n .i64 0,.n .i64 128,.n .i64 40,.n .i64 0,.n .i64 0,.n .i64 128,.n .i64 40]),(9,.cells [.n .i64 72,.n .i64 72]),(11,.cells [.v (.slice none 0 0),.n .i64 2,.n .i64 0]),(14,.cells [.sl 3 17 0 0 (some 0),.n .i64 3,.n .i64 0]),(16,.cells [.n .i64 287,.n .i64 1,.n .i64 1])],faC63,.v (.slice none 0 0),18,[(0,.cells [.n .i64 144,.sl 5 1 0 2 (some 2),.n .i64 0,.a .i64 1 [0,0,0,0,0,0,0,0,0,1],.v (.pointer none),.ptr 2 0,.sl 3 3 0 2 none,.ptr 4 0,.mp 5,.n .i64 2])],some [.own 0,.own 1,.own 2,.own 3,.own 4,.own 5,.own 6,.own 7,.own 8,.cell 0 3]⟩
def fa64 : TRule := ⟨11,[.ptr 0 0,.n .i64 1],19,[.arg 0 0,.cell 0 1,.cell 0 5,.cell 0 6,.cell 0 7,.cell 0 8,.cell 1 3,.cell 1 4,.cell 1 8,.cell 1 9,.cell 3 0,.cell 3 1,.cell 3 2,.cell 3 3,.cell 3 4,.cell 3 5,.cell 4 0,.cell 5 4,.cell 14 0],[(0,.cells [.n .i64 144,.sl 5 1 0 2 (some 2),.n .i64 0,.n .i64 286,.v (.pointer none),.ptr 2 0,.sl 3 3 0 2 none,.ptr 4 0,.mp 5,.n .i64 2]),(1,.cells [.n .i64 1,.n .u32 12812670,.n .i64 2,.sl 4 6 0 2 (some 2),.sl 2 7 0 1 (some 1),.n .i64 2,.n .u32 12812670,.n .i64 3,.sl 4 8 0 2 (some 2),.sl 2 9 0 1 (some 1)]),(3,.cells [.ptr 10 0,.ptr 11 0,.ptr 12 0,.ptr 13 0,.ptr 14 0,.ptr 15 0]),(4,.cells [.sl 3 16 0 1 none,.n .i64 2]),(5,.map [(.n .i64 1,.agg [.n .i64 0,.n .i64 1,.n .i64 1,.sl 1 17 0 11 (some 11)])]),(6,.cells [.n .i64 3,.n .i64 0,.n .i64 0,.n .i64 40,.n .i64 0,.n .i64 0,.n .i64 0,.n .i64 40]),(7,.cells [.n .i64 0,.n .i64 72]),(8,.cells [.n .i64 3,.n .i64 0,.n .i64 128,.n .i64 40,.n .i64 0,.n .i64 0,.n .i64 128,.n .i64 40]),(9,.cells [.n .i64 72,.n .i64 72]),(11,.cells [.v (.slice none 0 0),.n .i64 2,.n .i64 0]),(14,.cells [.sl 3 18 0 0 (some 0),.n .i64 3,.n .i64 0]),(16,.cells [.n .i64 287,.n .i64 1,.n .i64 1])],D0,.sl 4 54 0 1 (some 1),55,[(0,.cells [.n .i64 144,.sl 5 1 0 2 (some 2),.n .i64 0,.n .i64 287,.v (.pointer none),.ptr 2 0,.sl 3 3 0 2 none,.ptr 4 0,.mp 5,.n .i64 2]),(4,.cells [.sl 3 16 0 0 none,.n .i64 2]),(5,.map []),(54,.cells [.n .i64 287,.n .i64 1,.n .i64 1,.sl 1 17 0 11 (some 11)])],some []⟩
def fa65 : TRule := ⟨37,[.sl 1 0 7 4 (some 4),.agg [.n .i64 3,.n .i64 5,.n .i64 1,.n .i64 0,.n .i64 0,.v (.slice none 0 0),.v (.slice none 0 0),.n .u16 0,.n .u16 0]],1,[.arg 0 0],[(0,.cells [.n .u8 0,.n .u8 7,.n .u8 0,.n .u8 0,.n .u8 0,.n .u8 5,.n .u8 2,.n .u8 3,.n .u8 2,.a .u8 0 [1,0],.a .u8 0 [0,1]])],faD,.tup [.agg [.n .i64 3,.n .i64 0,.n .i64 0,.n .i64 0,.n .i64 0,.v (.slice none 0 0),.sl 1 5 0 1 (some 1),.n .u16 0,.n .u16 0,.v (.slice none 0 0)],.n .i64 0],6,[(5,.cells [.a .u16 0 [256,1]])],none⟩
def fa66 : TRule := ⟨13,[.agg [.n .i64 144,.sl 5 0 0 2 none],.n .i64 1,.n .i64 0,.n .i64 0],5,[.arg 0 1,.cell 0 3,.cell 0 4,.cell 0 8,.cell 0 9],[(0,.cells [.n .i64 1,.n .u32 12812670,.n .i64 2,.sl 4 1 0 2 none,.sl 2 2 0 1 (some 1),.n .i64 2,.n .u32 12812670,.n .i64 3,.sl 4 3 0 2 none,.sl 2 4 0 1 (some 1)]),(1,.cells [.n .i64 3,.n .i64 0,.n .i64 0,.n .i64 40,.n .i64 0,.n .i64 0,.n .i64 0,.n .i64 40]),(2,.cells [.n .i64 0,.n .i64 72]),(3,.cells [.n .i64 3,.n .i64 0,.n .i64 128,.n .i64 40,.n .i64 0,.n .i64 0,.n .i64 128,.n .i64 40]),(4,.cells [.n .i64 72,.n .i64 72])],D0,.n .i64 143,5,[],some []⟩
def fa67 : TRule := ⟨154,[.agg [.n .i64 2,.n .u32 12812670,.n .i64 3,.sl 4 0 0 2 (some 2),.sl 2 1 0 1 (some 1)],.agg [.n .i64 16,.n .i64 5,.n .i64 1,.n .i64 0,.n .i64 0,.v (.slice none 0 0),.sl 1 2 0 1 (some 1),.n .u16 0,.n .u16 0],.sl 10 3 0 1 none],4,[.arg 0 3,.arg 0 4,.arg 1 6,.arg 2 0],[(0,.cells [.n .i64 3,.n .i64 0,.n .i64 128,.n .i64 40,.n .i64 0,.n .i64 0,.n .i64 128,.n .i64 40]),(2,.cells [.a .u16 0 [256,1]]),(3,.cells [.n .i64 16,.n .i64 11,.n .i64 0,.n .i64 0,.n .i64 0,.v (.slice none 0 0),.v (.slice none 0 0),.n .u16 0,.n .u16 0,.v (.slice none 0 0)])],faD,.agg [.n .i64 16,.n .i64 11,.n .i64 0,.n .i64 0,.n .i64 0,.v (.slice none 0 0),.v (.slice none 0 0),.n .u16 0,.n .u16 0,.v (.slice none 0 0)],4,[],none⟩
def fa68 : TRule := ⟨56,[.agg [.n .i64 16,.n .i64 11,.n .i64 0,.n .i64 0,.n .i64 0,.v (.slice none 0 0),.v (.slice none 0 0),.n .u16 0,.n .u16 0,.v (.slice none 0 0)]],0,[],[],D0,.tup [.sl 1 4 0 2 (some 2),.n .i64 0],5,[(4,.cells [.n .u8 144,.n .u8 11])],some []⟩
def fa69 : TRule := ⟨32,[.agg [.n .i64 7,.n .i64 2,.sl 1 0 0 2 (some 2)]],1,[.arg 0 2],[(0,.cells [.n .u8 144,.n .u8 11])],D0,.sl 1 14 0 9 (some 9),15,[(14,.cells [.n .u8 0,.n .u8 7,.n .u8 0,.n .u8 0,.n .u8 0,.n .u8 3,.n .u8 2,.n .u8 144,.n .u8 11])],some []⟩
def fa70 : TRule := ⟨11,[.ptr 0 0,.n .i64 1],19,[.arg 0 0,.cell 0 1,.cell 0 5,.cell 0 6,.cell 0 7,.cell 0 8,.cell 1 3,.cell 1 4,.cell 1 8,.cell 1 9,.cell 3 0,.cell 3 1,.cell 3 2,.cell 3 3,.cell 3 4,.cell 3 5,.cell 4 0,.cell 5 4,.cell 14 0],[(0,.cells [.n .i64 144,.sl 5 1 0 2 (some 2),.n .i64 0,.n .i64 142,.v (.pointer none),.ptr 2 0,.sl 3 3 0 2 none,.ptr 4 0,.mp 5,.n .i64 1]),(1,.cells [.n .i64 1,.n .u32 12812670,.n .i64 2,.sl 4 6 0 2 (some 2),.sl 2 7 0 1 (some 1),.n .i64 2,.n .u32 12812670,.n .i64 3,.sl 4 8 0 2 (some 2),.sl 2 9 0 1 (some 1)]),(3,.cells [.ptr 10 0,.ptr 11 0,.ptr 12 0,.ptr 13 0,.ptr 14 0,.ptr 15 0]),(4,.cells [.sl 3 16 0 1 none,.n .i64 1]),(5,.map [(.n .i64 0,.agg [.n .i64 0,.n .i64 1,.n .i64 1,.sl 1 17 0 9 (some 9)])]),(6,.cells [.n .i64 3,.n .i64 0,.n .i64 0,.n .i64 40,.n .i64 0,.n .i64 0,.n .i64 0,.n .i64 40]),(7,.cells [.n .i64 0,.n .i64 72]),(8,.cells [.n .i64 3,.n .i64 0,.n .i64 128,.n .i64 40,.n .i64 0,.n .i64 0,.n .i64 128,.n .i64 40]),(9,.cells [.n .i64 72,.n .i64 72]),(11,.cells [.v (.slice none 0 0),.n .i64 2,.n .i64 0]),(14,.cells [.sl 3 18 0 0 (some 0),.n .i64 3,.n .i64 0]),(16,.cells [.n .i64 143,.n .i64 0,.n .i64 0])],D0,.sl 4 27 0 1 (some 1),28,[(0,.cells [.n .i64 144,.sl 5 1 0 2 (some 2),.n .i64 0,.n .i64 143,.v (.pointer none),.ptr 2 0,.sl 3 3 0 2 none,.ptr 4 0,.mp 5,.n .i64 1]),(4,.cells [.sl 3 16 0 0 none,.n .i64 1]),(5,.map []),(27,.cells [.n .i64 143,.n .i64 1,.n .i64 1,.sl 1 17 0 9 (some 9)])],some []⟩
def fa71 : TRule := ⟨37,[.sl 1 0 7 2 (some 2),.agg [.n .i64 16,.n .i64 5,.n .i64 1,.n .i64 0,.n .i64 0,.v (.slice none 0 0),.sl 1 1 0 1 (some 1),.n .u16 0,.n .u16 0]],2,[.arg 0 0,.arg 1 6],[(0,.cells [.n .u8 0,.n .u8 7,.n .u8 0,.n .u8 0,.n .u8 0,.n .u8 3,.n .u8 2,.n .u8 144,.n .u8 11])],D0,.tup [.agg [.n .i64 16,.n .i64 11,.n .i64 0,.n .i64 0,.n .i64 0,.v (.slice none 0 0),.v (.slice none 0 0),.n .u16 0,.n .u16 0,.v (.slice none 0 0)],.n .i64 0],2,[],some []⟩
def fa72 : TRule := ⟨89,[.agg [.n .i64 3,.n .i64 0,.n .i64 0,.n .i64 0,.n .i64 0,.v (.slice none 0 0),.sl 1 0 0 1 (some 1),.n .u16 0,.n .u16 0,.v (.slice none 0 0)]],1,[.arg 0 6],[(0,.cells [.n .u16 0])],D0,.n .i64 0,1,[],some []⟩
def fa73 : TRule := ⟨56,[.agg [.n .i64 3,.n .i64 0,.n .i64 0,.n .i64 0,.n .i64 0,.v (.slice none 0 0),.sl 1 0 0 1 (some 1),.n .u16 0,.n .u16 0,.v (.slice none 0 0)]],1,[.arg 0 6],[(0,.cells [.n .u16 0])],D0,.tup [.sl 1 6 0 4 (some 4),.n .i64 0],7,[(6,.cells [.n .u8 3,.n .u8 2,.n .u8 0,.n .u8 0])],some []⟩
def fa74 : TRule := ⟨17,[.ptr 0 0,.n .i64 1,.agg [.n .i64 3,.n .i64 5,.n .i64 1,.n .i64 0,.n .i64 0,.v (.slice none 0 0),.v (.slice none 0 0),.n .u16 0,.n .u16 0]],33,[.arg 0 0,.cell 0 1,.cell 0 5,.cell 0 6,.cell 0 7,.cell 0 8,.cell 1 3,.cell 1 4,.cell 1 8,.cell 1 9,.cell 2 0,.cell 2 2,.cell 2 5,.cell 3 0,.cell 3 1,.cell 3 2,.cell 3 3,.cell 3 4,.cell 3 5,.cell 4 0,.cell 10 0,.cell 12 2,.cell 12 5,.cell 12 8,.cell 16 3,.cell 16 4,.cell 16 7,.cell 17 0,.cell 18 0,.cell 20 0,.cell 20 1,.cell 20 2,.cell 20 3],[(0,.cells [.n .i64 144,.sl 5 1 0 2 (some 2),.n .i64 0,.n .i64 143,.v (.pointer none),.ptr 2 0,.sl 3 3 0 2 none,.ptr 4 0,.mp 5,.n .i64 1]),(1,.cells [.n .i64 1,.n .u32 12812670,.n .i64 2,.sl 4 6 0 2 (some 2),.sl 2 7 0 1 (some 1),.n .i64 2,.n .u32 12812670,.n .i64 3,.sl 4 8 0 2 (some 2),.sl 2 9 0 1 (some 1)]),(2,.cells [.ptr 10 0,.v (.slice none 0 0),.sl 1 11 3 0 none,.v (.slice none 0 0),.v (.slice none 0 0),.sl 3 12 0 3 none]),(3,.cells [.ptr 13 0,.ptr 14 0,.ptr 15 0,.ptr 16 0,.ptr 17 0,.ptr 18 0]),(4,.cells [.sl 3 19 0 0 none,.n .i64 1]),(5,.map []),(6,.cells [.n .i64 3,.n .i64 0,.n .i64 0,.n .i64 40,.n .i64 0,.n .i64 0,.n .i64 0,.n .i64 40]),(7,.cells [.n .i64 0,.n .i64 72]),(8,.cells [.n .i64 3,.n .i64 0,.n .i64 128,.n .i64 40,.n .i64 0,.n .i64 0,.n .i64 128,.n .i64 40]),(9,.cells [.n .i64 72,.n .i64 72]),(10,.cells [.ptr 20 0,.n .u8 0,.n .i64 1,.n .i64 0]),(12,.cells [.n .i64 72,.n .i64 1,.sl 1 21 0 11 none,.n .i64 76,.n .i64 1,.sl 1 22 0 11 none,.n .i64 80,.n .i64 1,.sl 1 23 0 11 none]),(14,.cells [.v (.slice none 0 0),.n .i64 2,.n .i64 0]),(16,.cells [.n .i64 2,.n .u32 12812670,.n .i64 3,.sl 4 24 0 2 (some 2),.sl 2 25 0 1 (some 1),.n .i64 1,.ptr 2 0,.ptr 26 0]),(17,.cells [.sl 3 27 0 0 (some 0),.n .i64 3,.n .i64 0]),(18,.cells [.sl 1 28 0 0 (some 0),.b false]),(19,.cells [.n .i64 143,.n .i64 0,.n .i64 0]),(20,.cells [.sl 1 29 0 512 (some 512),.sl 1 30 0 512 (some 512),.sl 1 31 0 512 (some 512),.sl 1 32 0 512 (some 512)]),(24,.cells [.n .i64 3,.n .i64 0,.n .i64 128,.n .i64 40,.n .i64 0,.n .i64 0,.n .i64 128,.n .i64 40]),(26,.cells [.n .i64 1,.n .i64 1,.n .i64 3]),(27,.cells []),(28,.cells []),(32,.cells (app (rpt 133 [.n .u16 0]) (app [.a .u16 0 [256,1]] (rpt 378 [.n .u16 0]))))],faD,.tup [.agg [.n .i64 3,.n .i64 0,.n .i64 0,.n .i64 0,.n .i64 0,.v (.slice none 0 0),.sl 1 499 0 1 (some 1),.n .u16 0,.n .u16 0,.v (.slice none 0 0)],.n .i64 287],500,[(0,.cells [.n .i64 144,.sl 5 1 0 2 (some 2),.n .i64 0,.n .i64 287,.v (.pointer none),.ptr 2 0,.sl 3 3 0 2 none,.ptr 4 0,.mp 5,.n .i64 2]),(2,.cells [.ptr 10 0,.v (.slice none 0 0),.sl 1 11 3 0 none,.v (.slice none 0 0),.v (.slice none 0 0),.sl 3 254 0 4 none]),(4,.cells [.sl 3 456 0 0 none,.n .i64 2]),(10,.cells [.ptr 20 0,.n .u8 0,.n .i64 2,.n .i64 0]),(12,.dead),(17,.cells [.sl 3 99 0 0 (some 0),.n .i64 3,.n .i64 0]),(18,.cells [.sl 1 85 0 0 (some 0),.b false]),(19,.dead),(26,.cells [.n .i64 2,.n .i64 1,.n .i64 3]),(85,.cells []),(99,.cells []),(252,.cells [.n .u8 17,.n .u8 3,.n .u8 0,.n .u8 133,.n .u8 0,.n .u8 1,.n .u8 151,.n .u8 115]),(254,.cells [.n .i64 72,.n .i64 1,.sl 1 21 0 11 none,.n .i64 76,.n .i64 1,.sl 1 22 0 11 none,.n .i64 80,.n .i64 1,.sl 1 23 0 11 none,.n .i64 216,.n .i64 1,.sl 1 252 0 8 none]),(456,.cells [.n .i64 287,.n .i64 1,.n .i64 1]),(499,.cells [.a .u16 0 [256,1]])],none⟩
def fa75 : TRule := ⟨195,[.sl 1 0 0 8 (some 8),.agg [.n .i64 16,.n .i64 133,.n .i64 1,.n .i64 0,.n .i64 0,.v (.slice none 0 0),.sl 1 1 0 1 (some 1),.n .u16 0,.n .u16 0]],2,[.arg 0 0,.arg 1 6],[(0,.cells [.n .u8 17,.n .u8 16,.n .u8 0,.n .u8 133,.n .u8 0,.n .u8 1,.n .u8 18,.n .u8 177])],D0,.tup [.agg [.n .i64 0,.n .i64 0,.n .i64 0,.n .i64 0,.n .i64 0,.v (.slice none 0 0),.v (.slice none 0 0),.n .u16 0,.n .u16 0,.v (.slice none 0 0)],.b false],2,[],some []⟩
def fa76 : TRule := ⟨220,[.ptr 0 0,.sl 1 1 1 8 (some 8)],7,[.arg 0 0,.arg 1 0,.cell 0 0,.cell 2 0,.cell 2 1,.cell 2 2,.cell 2 3],[(0,.cells [.ptr 2 0,.n .u8 0,.n .i64 1,.n .i64 0]),(1,.cells [.n .u8 17,.n .u8 16,.n .u8 0,.n .u8 133,.n .u8 0,.n .u8 1,.n .u8 2,.a .u8 0 [1,0],.a .u8 0 [0,1]]),(2,.cells [.sl 1 3 0 512 (some 512),.sl 1 4 0 512 (some 512),.sl 1 5 0 512 (some 512),.sl 1 6 0 512 (some 512)]),(6,.cells (app (rpt 133 [.n .u16 0]) (app [.a .u16 0 [256,1]] (rpt 378 [.n .u16 0]))))],faD,.sl 1 29 0 5 (some 5),30,[(0,.cells [.ptr 2 0,.n .u8 0,.n .i64 2,.n .i64 0]),(29,.cells [.n .u8 16,.n .u8 0,.n .u8 133,.n .u8 0,.n .u8 1])],none⟩
def fa77 : TRule := ⟨213,[.ptr 0 0,.sl 1 1 1 8 (some 8)],10,[.arg 0 0,.arg 1 0,.cell 0 0,.cell 0 2,.cell 0 5,.cell 2 0,.cell 5 0,.cell 5 1,.cell 5 2,.cell 5 3],[(0,.cells [.ptr 2 0,.v (.slice none 0 0),.sl 1 3 3 0 none,.v (.slice none 0 0),.v (.slice none 0 0),.sl 3 4 0 3 none]),(1,.cells [.n .u8 17,.n .u8 16,.n .u8 0,.n .u8 133,.n .u8 0,.n .u8 1,.n .u8 2,.a .u8 0 [1,0],.a .u8 0 [0,1]]),(2,.cells [.ptr 5 0,.n .u8 0,.n .i64 1,.n .i64 0]),(5,.cells [.sl 1 6 0 512 (some 512),.sl 1 7 0 512 (some 512),.sl 1 8 0 512 (some 512),.sl 1 9 0 512 (some 512)]),(9,.cells (app (rpt 133 [.n .u16 0]) (app [.a .u16 0 [256,1]] (rpt 378 [.n .u16 0]))))],faD,.sl 1 36 0 8 none,37,[(2,.cells [.ptr 5 0,.n .u8 0,.n .i64 2,.n .i64 0]),(36,.cells [.n .u8 17,.n .u8 16,.n .u8 0,.n .u8 133,.n .u8 0,.n .u8 1,.n .u8 18,.n .u8 176])],none⟩
def fa78 : TRule := ⟨184,[.ptr 0 0,.n .i64 1,.n .i64 216,.agg [.n .i64 3,.n .i64 133,.n .i64 1,.n .i64 0,.n .i64 0,.v (.slice none 0 0),.v (.slice none 0 0),.n .u16 0,.n .u16 0]],12,[.arg 0 0,.cell 0 0,.cell 0 2,.cell 0 5,.cell 1 0,.cell 3 2,.cell 3 5,.cell 3 8,.cell 4 0,.cell 4 1,.cell 4 2,.cell 4 3],[(0,.cells [.ptr 1 0,.v (.slice none 0 0),.sl 1 2 3 0 none,.v (.slice none 0 0),.v (.slice none 0 0),.sl 3 3 0 3 none]),(1,.cells [.ptr 4 0,.n .u8 0,.n .i64 2,.n .i64 0]),(3,.cells [.n .i64 72,.n .i64 1,.sl 1 5 0 11 none,.n .i64 76,.n .i64 1,.sl 1 6 0 11 none,.n .i64 80,.n .i64 1,.sl 1 7 0 11 none]),(4,.cells [.sl 1 8 0 512 (some 512),.sl 1 9 0 512 (some 512),.sl 1 10 0 512 (some 512),.sl 1 11 0 512 (some 512)]),(11,.cells (app (rpt 133 [.n .u16 0]) (app [.a .u16 0 [256,1]] (rpt 378 [.n .u16 0]))))],faD,.tup [.agg [.n .i64 3,.n .i64 0,.n .i64 0,.n .i64 0,.n .i64 0,.v (.slice none 0 0),.sl 1 75 0 1 (some 1),.n .u16 0,.n .u16 0,.v (.slice none 0 0)],.n .i64 0],76,[(0,.cells [.ptr 1 0,.v (.slice none 0 0),.sl 1 2 3 0 none,.v (.slice none 0 0),.v (.slice none 0 0),.sl 3 32 0 4 none]),(1,.cells [.ptr 4 0,.n .u8 0,.n .i64 3,.n .i64 0]),(3,.dead),(30,.cells [.n .u8 17,.n .u8 3,.n .u8 0,.n .u8 133,.n .u8 0,.n .u8 1,.n .u8 151,.n .u8 115]),(32,.cells [.n .i64 72,.n .i64 1,.sl 1 5 0 11 none,.n .i64 76,.n .i64 1,.sl 1 6 0 11 none,.n .i64 80,.n .i64 1,.sl 1 7 0 11 none,.n .i64 216,.n .i64 1,.sl 1 30 0 8 none]),(75,.cells [.a .u16 0 [256,1]])],none⟩
def fa79 : TRule := ⟨17,[.ptr 0 0,.n .i64 1,.agg [.n .i64 3,.n .i64 5,.n .i64 1,.n .i64 0,.n .i64 0,.v (.slice none 0 0),.v (.slice none 0 0),.n .u16 0,.n .u16 0]],33,[.arg 0 0,.cell 0 1,.cell 0 5,.cell 0 6,.cell 0 7,.cell 0 8,.cell 1 3,.cell 1 4,.cell 1 8,.cell 1 9,.cell 2 0,.cell 2 2,.cell 2 5,.cell 3 0,.cell 3 1,.cell 3 2,.cell 3 3,.cell 3 4,.cell 3 5,.cell 4 0,.cell 10 0,.cell 12 2,.cell 12 5,.cell 12 8,.cell 16 3,.cell 16 4,.cell 16 7,.cell 17 0,.cell 18 0,.cell 20 0,.cell 20 1,.cell 20 2,.cell 20 3],[(0,.cells [.n .i64 144,.sl 5 1 0 2 (some 2),.n .i64 0,.n .i64 143,.v (.pointer none),.ptr 2 0,.sl 3 3 0 2 none,.ptr 4 0,.mp 5,.n .i64 1]),(1,.cells [.n .i64 1,.n .u32 12812670,.n .i64 2,.sl 4 6 0 2 (some 2),.sl 2 7 0 1 (some 1),.n .i64 2,.n .u32 12812670,.n .i64 3,.sl 4 8 0 2 (some 2),.sl 2 9 0 1 (some 1)]),(2,.cells [.ptr 10 0,.v (.slice none 0 0),.sl 1 11 3 0 none,.v (.slice none 0 0),.v (.slice none 0 0),.sl 3 12 0 3 none]),(3,.cells [.ptr 13 0,.ptr 14 0,.ptr 15 0,.ptr 16 0,.ptr 17 0,.ptr 18 0]),(4,.cells [.sl 3 19 0 0 none,.n .i64 1]),(5,.map []),(6,.cells [.n .i64 3,.n .i64 0,.n .i64 0,.n .i64 40,.n .i64 0,.n .i64 0,.n .i64 0,.n .i64 40]),(7,.cells [.n .i64 0,.n .i64 72]),(8,.cells [.n .i64 3,.n .i64 0,.n .i64 128,.n .i64 40,.n .i64 0,.n .i64 0,.n .i64 128,.n .i64 40]),(9,.cells [.n .i64 72,.n .i64 72]),(10,.cells [.ptr 20 0,.n .u8 0,.n .i64 2,.n .i64 0]),(12,.cells [.n .i64 72,.n .i64 1,.sl 1 21 0 11 none,.n .i64 76,.n .i64 1,.sl 1 22 0 11 none,.n .i64 80,.n .i64 1,.sl 1 23 0 11 none]),(14,.cells [.v (.slice none 0 0),.n .i64 2,.n .i64 0]),(16,.cells [.n .i64 2,.n .u32 12812670,.n .i64 3,.sl 4 24 0 2 (some 2),.sl 2 25 0 1 (some 1),.n .i64 1,.ptr 2 0,.ptr 26 0]),(17,.cells [.sl 3 27 0 0 (some 0),.n .i64 3,.n .i64 0]),(18,.cells [.sl 1 28 0 0 (some 0),.b false]),(19,.cells [.n .i64 143,.n .i64 0,.n .i64 0]),(20,.cells [.sl 1 29 0 512 (some 512),.sl 1 30 0 512 (some 512),.sl 1 31 0 512 (some 512),.sl 1 32 0 512 (some 512)]),(24,.cells [.n .i64 3,.n .i64 0,.n .i64 128,.n .i64 40,.n .i64 0,.n .i64 0,.n .i64 128,.n .i64 40]),(26,.cells [.n .i64 1,.n .i64 0,.n .i64 2]),(27,.cells []),(28,.cells []),(32,.cells (app (rpt 133 [.n .u16 0]) (app [.a .u16 0 [256,1]] (rpt 378 [.n .u16 0]))))],faD,.tup [.agg [.n .i64 3,.n .i64 0,.n .i64 0,.n .i64 0,.n .i64 0,.v (.slice none 0 0),.sl 1 499 0 1 (some 1),.n .u16 0,.n .u16 0,.v (.slice none 0 0)],.n .i64 287],500,[(0,.cells [.n .i64 144,.sl 5 1 0 2 (some 2),.n .i64 0,.n .i64 287,.v (.pointer none),.ptr 2 0,.sl 3 3 0 2 none,.ptr 4 0,.mp 5,.n .i64 2]),(2,.cells [.ptr 10 0,.v (.slice none 0 0),.sl 1 11 3 0 none,.v (.slice none 0 0),.v (.slice none 0 0),.sl 3 254 0 4 none]),(4,.cells [.sl 3 456 0 0 none,.n .i64 2]),(10,.cells [.ptr 20 0,.n .u8 0,.n .i64 3,.n .i64 0]),(12,.dead),(17,.cells [.sl 3 99 0 0 (some 0),.n .i64 3,.n .i64 0]),(18,.cells [.sl 1 85 0 0 (some 0),.b false]),(19,.dead),(26,.cells [.n .i64 2,.n .i64 0,.n .i64 2]),(85,.cells []),(99,.cells []),(252,.cells [.n .u8 17,.n .u8 3,.n .u8 0,.n .u8 133,.n .u8 0,.n .u8 1,.n .u8 151,.n .u8 115]),(254,.cells [.n .i64 72,.n .i64 1,.sl 1 21 0 11 none,.n .i64 76,.n .i64 1,.sl 1 22 0 11 none,.n .i64 80,.n .i64 1,.sl 1 23 0 11 none,.n .i64 216,.n .i64 1,.sl 1 252 0 8 none]),(456,.cells [.n .i64 287,.n .i64 1,.n .i64 1]),(499,.cells [.a .u16 0 [256,1]])],none⟩
def fa80 : TRule := ⟨17,[.ptr 0 0,.n .i64 1,.agg [.n .i64 3,.n .i64 5,.n .i64 1,.n .i64 0,.n .i64 0,.v (.slice none 0 0),.v (.slice none 0 0),.n .u16 0,.n .u16 0]],33,[.arg 0 0,.cell 0 1,.cell 0 5,.cell 0 6,.cell 0 7,.cell 0 8,.cell 1 3,.cell 1 4,.cell 1 8,.cell 1 9,.cell 2 0,.cell 2 2,.cell 2 5,.cell 3 0,.cell 3 1,.cell 3 2,.cell 3 3,.cell 3 4,.cell 3 5,.cell 4 0,.cell 10 0,.cell 12 2,.cell 12 5,.cell 12 8,.cell 16 3,.cell 16 4,.cell 16 7,.cell 17 0,.cell 18 0,.cell 20 0,.cell 20 1,.cell 20 2,.cell 20 3],[(0,.cells [.n .i64 144,.sl 5 1 0 2 (some 2),.n .i64 0,.n .i64 143,.v (.pointer none),.ptr 2 0,.sl 3 3 0 2 none,.ptr 4 0,.mp 5,.n .i64 1]),(1,.cells [.n .i64 1,.n .u32 12812670,.n .i64 2,.sl 4 6 0 2 (some 2),.sl 2 7 0 1 (some 1),.n .i64 2,.n .u32 12812670,.n .i64 3,.sl 4 8 0 2 (some 2),.sl 2 9 0 1 (some 1)]),(2,.cells [.ptr 10 0,.v (.slice none 0 0),.sl 1 11 3 0 none,.v (.slice none 0 0),.v (.slice none 0 0),.sl 3 12 0 3 none]),(3,.cells [.ptr 13 0,.ptr 14 0,.ptr 15 0,.ptr 16 0,.ptr 17 0,.ptr 18 0]),(4,.cells [.sl 3 19 0 0 none,.n .i64 1]),(5,.map []),(6,.cells [.n .i64 3,.n .i64 0,.n .i64 0,.n .i64 40,.n .i64 0,.n .i64 0,.n .i64 0,.n .i64 40]),(7,.cells [.n .i64 0,.n .i64 72]),(8,.cells [.n .i64 3,.n .i64 0,.n .i64 128,.n .i64 40,.n .i64 0,.n .i64 0,.n .i64 128,.n .i64 40]),(9,.cells [.n .i64 72,.n .i64 72]),(10,.cells [.ptr 20 0,.n .u8 0,.n .i64 2,.n .i64 0]),(12,.cells [.n .i64 72,.n .i64 1,.sl 1 21 0 11 none,.n .i64 76,.n .i64 1,.sl 1 22 0 11 none,.n .i64 80,.n .i64 1,.sl 1 23 0 11 none]),(14,.cells [.v (.slice none 0 0),.n .i64 2,.n .i64 0]),(16,.cells [.n .i64 2,.n .u32 12812670,.n .i64 3,.sl 4 24 0 2 (some 2),.sl 2 25 0 1 (some 1),.n .i64 1,.ptr 2 0,.ptr 26 0]),(17,.cells [.sl 3 27 0 0 (some 0),.n .i64 3,.n .i64 0]),(18,.cells [.sl 1 28 0 0 (some 0),.b false]),(19,.cells [.n .i64 143,.n .i64 0,.n .i64 0]),(20,.cells [.sl 1 29 0 512 (some 512),.sl 1 30 0 512 (some 512),.sl 1 31 0 512 (some 512),.sl 1 32 0 512 (some 512)]),(24,.cells [.n .i64 3,.n .i64 0,.n .i64 128,.n .i64 40,.n .i64 0,.n .i64 0,.n .i64 128,.n .i64 40]),(26,.cells [.n .i64 1,.n .i64 1,.n .i64 3]),(27,.cells []),(28,.cells []),(32,.cells (app (rpt 133 [.n .u16 0]) (app [.a .u16 0 [256,1]] (rpt 378 [.n .u16 0]))))],faD,.tup [.agg [.n .i64 3,.n .i64 0,.n .i64 0,.n .i64 0,.n .i64 0,.v (.slice none 0 0),.sl 1 499 0 1 (some 1),.n .u16 0,.n .u16 0,.v (.slice none 0 0)],.n .i64 287],500,[(0,.cells [.n .i64 144,.sl 5 1 0 2 (some 2),.n .i64 0,.n .i64 287,.v (.pointer none),.ptr 2 0,.sl 3 3 0 2 none,.ptr 4 0,.mp 5,.n .i64 2]),(2,.cells [.ptr 10 0,.v (.slice none 0 0),.sl 1 11 3 0 none,.v (.slice none 0 0),.v (.slice none 0 0),.sl 3 254 0 4 none]),(4,.cells [.sl 3 456 0 0 none,.n .i64 2]),(10,.cells [.ptr 20 0,.n .u8 0,.n .i64 3,.n .i64 0]),(12,.dead),(17,.cells [.sl 3 99 0 0 (some 0),.n .i64 3,.n .i64 0]),(18,.cells [.sl 1 85 0 0 (some 0),.b false]),(19,.dead),(26,.cells [.n .i64 2,.n .i64 1,.n .i64 3]),(85,.cells []),(99,.cells []),(252,.cells [.n .u8 17,.n .u8 3,.n .u8 0,.n .u8 133,.n .u8 0,.n .u8 1,.n .u8 151,.n .u8 115]),(254,.cells [.n .i64 72,.n .i64 1,.sl 1 21 0 11 none,.n .i64 76,.n .i64 1,.sl 1 22 0 11 none,.n .i64 80,.n .i64 1,.sl 1 23 0 11 none,.n .i64 216,.n .i64 1,.sl 1 252 0 8 none]),(456,.cells [.n .i64 287,.n .i64 1,.n .i64 1]),(499,.cells [.a .u16 0 [256,1]])],none⟩
def fa81 : TRule := ⟨213,[.ptr 0 0,.sl 1 1 1 8 (some 8)],10,[.arg 0 0,.arg 1 0,.cell 0 0,.cell 0 2,.cell 0 5,.cell 2 0,.cell 5 0,.cell 5 1,.cell 5 2,.cell 5 3],[(0,.cells [.ptr 2 0,.v (.slice none 0 0),.sl 1 3 3 0 none,.v (.slice none 0 0),.v (.slice none 0 0),.sl 3 4 0 3 none]),(1,.cells [.n .u8 17,.n .u8 16,.n .u8 0,.n .u8 133,.n .u8 0,.n .u8 1,.n .u8 2,.a .u8 0 [1,0],.a .u8 0 [0,1]]),(2,.cells [.ptr 5 0,.n .u8 0,.n .i64 2,.n .i64 0]),(5,.cells [.sl 1 6 0 512 (some 512),.sl 1 7 0 512 (some 512),.sl 1 8 0 512 (some 512),.sl 1 9 0 512 (some 512)]),(9,.cells (app (rpt 133 [.n .u16 0]) (app [.a .u16 0 [256,1]] (rpt 378 [.n .u16 0]))))],faD,.sl 1 36 0 8 none,37,[(2,.cells [.ptr 5 0,.n .u8 0,.n .i64 3,.n .i64 0]),(36,.cells [.n .u8 17,.n .u8 16,.n .u8 0,.n .u8 133,.n .u8 0,.n .u8 1,.n .u8 18,.n .u8 176])],none⟩
def fa82 : TRule := ⟨184,[.ptr 0 0,.n .i64 1,.n .i64 216,.agg [.n .i64 3,.n .i64 133,.n .i64 1,.n .i64 0,.n .i64 0,.v (.slice none 0 0),.v (.slice none 0 0),.n .u16 0,.n .u16 0]],12,[.arg 0 0,.cell 0 0,.cell 0 2,.cell 0 5,.cell 1 0,.cell 3 2,.cell 3 5,.cell 3 8,.cell 4 0,.cell 4 1,.cell 4 2,.cell 4 3],[(0,.cells [.ptr 1 0,.v (.slice none 0 0),.sl 1 2 3 0 none,.v (.slice none 0 0),.v (.slice none 0 0),.sl 3 3 0 3 none]),(1,.cells [.ptr 4 0,.n .u8 0,.n .i64 3,.n .i64 0]),(3,.cells [.n .i64 72,.n .i64 1,.sl 1 5 0 11 none,.n .i64 76,.n .i64 1,.sl 1 6 0 11 none,.n .i64 80,.n .i64 1,.sl 1 7 0 11 none]),(4,.cells [.sl 1 8 0 512 (some 512),.sl 1 9 0 512 (some 512),.sl 1 10 0 512 (some 512),.sl 1 11 0 512 (some 512)]),(11,.cells (app (rpt 133 [.n .u16 0]) (app [.a .u16 0 [256,1]] (rpt 378 [.n .u16 0]))))],faD,.tup [.agg [.n .i64 3,.n .i64 0,.n .i64 0,.n .i64 0,.n .i64 0,.v (.slice none 0 0),.sl 1 75 0 1 (some 1),.n .u16 0,.n .u16 0,.v (.slice none 0 0)],.n .i64 0],76,[(0,.cells [.ptr 1 0,.v (.slice none 0 0),.sl 1 2 3 0 none,.v (.slice none 0 0),.v (.slice none 0 0),.sl 3 32 0 4 none]),(1,.cells [.ptr 4 0,.n .u8 0,.n .i64 4,.n .i64 0]),(3,.dead),(30,.cells [.n .u8 17,.n .u8 3,.n .u8 0,.n .u8 133,.n .u8 0,.n .u8 1,.n .u8 151,.n .u8 115]),(32,.cells [.n .i64 72,.n .i64 1,.sl 1 5 0 11 none,.n .i64 76,.n .i64 1,.sl 1 6 0 11 none,.n .i64 80,.n .i64 1,.sl 1 7 0 11 none,.n .i64 216,.n .i64 1,.sl 1 30 0 8 none]),(75,.cells [.a .u16 0 [256,1]])],none⟩
def fa83 : TRule := ⟨17,[.ptr 0 0,.n .i64 1,.agg [.n .i64 3,.n .i64 5,.n .i64 1,.n .i64 0,.n .i64 0,.v (.slice none 0 0),.v (.slice none 0 0),.n .u16 0,.n .u16 0]],33,[.arg 0 0,.cell 0 1,.cell 0 5,.cell 0 6,.cell 0 7,.cell 0 8,.cell 1 3,.cell 1 4,.cell 1 8,.cell 1 9,.cell 2 0,.cell 2 2,.cell 2 5,.cell 3 0,.cell 3 1,.cell 3 2,.cell 3 3,.cell 3 4,.cell 3 5,.cell 4 0,.cell 10 0,.cell 12 2,.cell 12 5,.cell 12 8,.cell 16 3,.cell 16 4,.cell 16 7,.cell 17 0,.cell 18 0,.cell 20 0,.cell 20 1,.cell 20 2,.cell 20 3],[(0,.cells [.n .i64 144,.sl 5 1 0 2 (some 2),.n .i64 0,.n .i64 143,.v (.pointer none),.ptr 2 0,.sl 3 3 0 2 none,.ptr 4 0,.mp 5,.n .i64 1]),(1,.cells [.n .i64 1,.n .u32 12812670,.n .i64 2,.sl 4 6 0 2 (some 2),.sl 2 7 0 1 (some 1),.n .i64 2,.n .u32 12812670,.n .i64 3,.sl 4 8 0 2 (some 2),.sl 2 9 0 1 (some 1)]),(2,.cells [.ptr 10 0,.v (.slice none 0 0),.sl 1 11 3 0 none,.v (.slice none 0 0),.v (.slice none 0 0),.sl 3 12 0 3 none]),(3,.cells [.ptr 13 0,.ptr 14 0,.ptr 15 0,.ptr 16 0,.ptr 17 0,.ptr 18 0]),(4,.cells [.sl 3 19 0 0 none,.n .i64 1]),(5,.map []),(6,.cells [.n .i64 3,.n .i64 0,.n .i64 0,.n .i64 40,.n .i64 0,.n .i64 0,.n .i64 0,.n .i64 40]),(7,.cells [.n .i64 0,.n .i64 72]),(8,.cells [.n .i64 3,.n .i64 0,.n .i64 128,.n .i64 40,.n .i64 0,.n .i64 0,.n .i64 128,.n .i64 40]),(9,.cells [.n .i64 72,.n .i64 72]),(10,.cells [.ptr 20 0,.n .u8 0,.n .i64 3,.n .i64 0]),(12,.cells [.n .i64 72,.n .i64 1,.sl 1 21 0 11 none,.n .i64 76,.n .i64 1,.sl 1 22 0 11 none,.n .i64 80,.n .i64 1,.sl 1 23 0 11 none]),(14,.cells [.v (.slice none 0 0),.n .i64 2,.n .i64 0]),(16,.cells [.n .i64 2,.n .u32 12812670,.n .i64 3,.sl 4 24 0 2 (some 2),.sl 2 25 0 1 (some 1),.n .i64 1,.ptr 2 0,.ptr 26 0]),(17,.cells [.sl 3 27 0 0 (some 0),.n .i64 3,.n .i64 0]),(18,.cells [.sl 1 28 0 0 (some 0),.b false]),(19,.cells [.n .i64 143,.n .i64 0,.n .i64 0]),(20,.cells [.sl 1 29 0 512 (some 512),.sl 1 30 0 512 (some 512),.sl 1 31 0 512 (some 512),.sl 1 32 0 512 (some 512)]),(24,.cells [.n .i64 3,.n .i64 0,.n .i64 128,.n .i64 40,.n .i64 0,.n .i64 0,.n .i64 128,.n .i64 40]),(26,.cells [.n .i64 1,.n .i64 0,.n .i64 2]),(27,.cells []),(28,.cells []),(32,.cells (app (rpt 133 [.n .u16 0]) (app [.a .u16 0 [256,1]] (rpt 378 [.n .u16 0]))))],faD,.tup [.agg [.n .i64 3,.n .i64 0,.n .i64 0,.n .i64 0,.n .i64 0,.v (.slice none 0 0),.sl 1 499 0 1 (some 1),.n .u16 0,.n .u16 0,.v (.slice none 0 0)],.n .i64 287],500,[(0,.cells [.n .i64 144,.sl 5 1 0 2 (some 2),.n .i64 0,.n .i64 287,.v (.pointer none),.ptr 2 0,.sl 3 3 0 2 none,.ptr 4 0,.mp 5,.n .i64 2]),(2,.cells [.ptr 10 0,.v (.slice none 0 0),.sl 1 11 3 0 none,.v (.slice none 0 0),.v (.slice none 0 0),.sl 3 254 0 4 none]),(4,.cells [.sl 3 456 0 0 none,.n .i64 2]),(10,.cells [.ptr 20 0,.n .u8 0,.n .i64 4,.n .i64 0]),(12,.dead),(17,.cells [.sl 3 99 0 0 (some 0),.n .i64 3,.n .i64 0]),(18,.cells [.sl 1 85 0 0 (some 0),.b false]),(19,.dead),(26,.cells [.n .i64 2,.n .i64 0,.n .i64 2]),(85,.cells []),(99,.cells []),(252,.cells [.n .u8 17,.n .u8 3,.n .u8 0,.n .u8 133,.n .u8 0,.n .u8 1,.n .u8 151,.n .u8 115]),(254,.cells [.n .i64 72,.n .i64 1,.sl 1 21 0 11 none,.n .i64 76,.n .i64 1,.sl 1 22 0 11 none,.n .i64 80,.n .i64 1,.sl 1 23 0 11 none,.n .i64 216,.n .i64 1,.sl 1 252 0 8 none]),(456,.cells [.n .i64 287,.n .i64 1,.n .i64 1]),(499,.cells [.a .u16 0 [256,1]])],none⟩
def fa84 : TRule := ⟨17,[.ptr 0 0,.n .i64 1,.agg [.n .i64 3,.n .i64 5,.n .i64 1,.n .i64 0,.n .i64 0,.v (.slice none 0 0),.v (.slice none 0 0),.n .u16 0,.n .u16 0]],33,[.arg 0 0,.cell 0 1,.cell 0 5,.cell 0 6,.cell 0 7,.cell 0 8,.cell 1 3,.cell 1 4,.cell 1 8,.cell 1 9,.cell 2 0,.cell 2 2,.cell 2 5,.cell 3 0,.cell 3 1,.cell 3 2,.cell 3 3,.cell 3 4,.cell 3 5,.cell 4 0,.cell 10 0,.cell 12 2,.cell 12 5,.cell 12 8,.cell 16 3,.cell 16 4,.cell 16 7,.cell 17 0,.cell 18 0,.cell 20 0,.cell 20 1,.cell 20 2,.cell 20 3],[(0,.cells [.n .i64 144,.sl 5 1 0 2 (some 2),.n .i64 0,.n .i64 143,.v (.pointer none),.ptr 2 0,.sl 3 3 0 2 none,.ptr 4 0,.mp 5,.n .i64 1]),(1,.cells [.n .i64 1,.n .u32 12812670,.n .i64 2,.sl 4 6 0 2 (some 2),.sl 2 7 0 1 (some 1),.n .i64 2,.n .u32 12812670,.n .i64 3,.sl 4 8 0 2 (some 2),.sl 2 9 0 1 (some 1)]),(2,.cells [.ptr 10 0,.v (.slice none 0 0),.sl 1 11 3 0 none,.v (.slice none 0 0),.v (.slice none 0 0),.sl 3 12 0 3 none]),(3,.cells [.ptr 13 0,.ptr 14 0,.ptr 15 0,.ptr 16 0,.ptr 17 0,.ptr 18 0]),(4,.cells [.sl 3 19 0 0 none,.n .i64 1]),(5,.map []),(6,.cells [.n .i64 3,.n .i64 0,.n .i64 0,.n .i64 40,.n .i64 0,.n .i64 0,.n .i64 0,.n .i64 40]),(7,.cells [.n .i64 0,.n .i64 72]),(8,.cells [.n .i64 3,.n .i64 0,.n .i64 128,.n .i64 40,.n .i64 0,.n .i64 0,.n .i64 128,.n .i64 40]),(9,.cells [.n .i64 72,.n .i64 72]),(10,.cells [.ptr 20 0,.n .u8 0,.n .i64 3,.n .i64 0]),(12,.cells [.n .i64 72,.n .i64 1,.sl 1 21 0 11 none,.n .i64 76,.n .i64 1,.sl 1 22 0 11 none,.n .i64 80,.n .i64 1,.sl 1 23 0 11 none]),(14,.cells [.v (.slice none 0 0),.n .i64 2,.n .i64 0]),(16,.cells [.n .i64 2,.n .u32 12812670,.n .i64 3,.sl 4 24 0 2 (some 2),.sl 2 25 0 1 (some 1),.n .i64 1,.ptr 2 0,.ptr 26 0]),(17,.cells [.sl 3 27 0 0 (some 0),.n .i64 3,.n .i64 0]),(18,.cells [.sl 1 28 0 0 (some 0),.b false]),(19,.cells [.n .i64 143,.n .i64 0,.n .i64 0]),(20,.cells [.sl 1 29 0 512 (some 512),.sl 1 30 0 512 (some 512),.sl 1 31 0 512 (some 512),.sl 1 32 0 512 (some 512)]),(24,.cells [.n .i64 3,.n .i64 0,.n .i64 128,.n .i64 40,.n .i64 0,.n .i64 0,.n .i64 128,.n .i64 40]),(26,.cells [.n .i64 1,.n .i64 1,.n .i64 3]),(27,.cells []),(28,.cells []),(32,.cells (app (rpt 133 [.n .u16 0]) (app [.a .u16 0 [256,1]] (rpt 378 [.n .u16 0]))))],faD,.tup [.agg [.n .i64 3,.n .i64 0,.n .i64 0,.n .i64 0,.n .i64 0,.v (.slice none 0 0),.sl 1 499 0 1 (some 1),.n .u16 0,.n .u16 0,.v (.slice none 0 0)],.n .i64 287],500,[(0,.cells [.n .i64 144,.sl 5 1 0 2 (some 2),.n .i64 0,.n .i64 287,.v (.pointer none),.ptr 2 0,.sl 3 3 0 2 none,.ptr 4 0,.mp 5,.n .i64 2]),(2,.cells [.ptr 10 0,.v (.slice none 0 0),.sl 1 11 3 0 none,.v (.slice none 0 0),.v (.slice none 0 0),.sl 3 254 0 4 none]),(4,.cells [.sl 3 456 0 0 none,.n .i64 2]),(10,.cells [.ptr 20 0,.n .u8 0,.n .i64 4,.n .i64 0]),(12,.dead),(17,.cells [.sl 3 99 0 0 (some 0),.n .i64 3,.n .i64 0]),(18,.cells [.sl 1 85 0 0 (some 0),.b false]),(19,.dead),(26,.cells [.n .i64 2,.n .i64 1,.n .i64 3]),(85,.cells []),(99,.cells []),(252,.cells [.n .u8 17,.n .u8 3,.n .u8 0,.n .u8 133,.n .u8 0,.n .u8 1,.n .u8 151,.n .u8 115]),(254,.cells [.n .i64 72,.n .i64 1,.sl 1 21 0 11 none,.n .i64 76,.n .i64 1,.sl 1 22 0 11 none,.n .i64 80,.n .i64 1,.sl 1 23 0 11 none,.n .i64 216,.n .i64 1,.sl 1 252 0 8 none]),(456,.cells [.n .i64 287,.n .i64 1,.n .i64 1]),(499,.cells [.a .u16 0 [256,1]])],none⟩
def fa0U : TRs := []
def fa1U : TRs := []
def fa2U : TRs := []
def fa3U : TRs := []
def fa4U : TRs := []
def fa5U : TRs := [(164,[fa1,fa3]),(165,[fa2]),(145,[fa4])]
def fa6U : TRs := [(46,[fa5])]
def fa7U : TRs := []
def fa8U : TRs := []
def fa9U : TRs := [(47,[fa8])]
def fa10U : TRs := [(41,[fa7])]
def fa11U : TRs := []
def fa12U : TRs := [(164,[fa1,fa3]),(165,[fa2]),(145,[fa4])]
def fa13U : TRs := [(46,[fa12])]
def fa14U : TRs := [(46,[fa12])]
def fa15U : TRs := []
def fa16U : TRs := [(46,[fa12]),(118,[fa15])]
def fa17U : TRs := [(41,[fa7])]
def fa18U : TRs := []
def fa19U : TRs := [(192,[fa18])]
def fa20U : TRs := [(41,[fa7]),(172,[fa19])]
def fa21U : TRs := []
def fa22U : TRs := [(41,[fa21])]
def fa23U : TRs := [(31,[fa22])]
def fa24U : TRs := []
def fa25U : TRs := [(31,[fa22])]
def fa26U : TRs := []
def fa27U : TRs := [(89,[fa26])]
def fa28U : TRs := [(41,[fa21]),(150,[fa25]),(56,[fa27])]
def fa29U : TRs := []
def fa30U : TRs := [(220,[fa28]),(219,[fa29])]
def fa31U : TRs := [(56,[fa27])]
def fa32U : TRs := [(151,[fa20]),(89,[fa26])]
def fa33U : TRs := []
def fa34U : TRs := []
def fa35U : TRs := []
def fa36U : TRs := [(55,[fa35])]
def fa37U : TRs := [(46,[fa12])]
def fa38U : TRs := [(46,[fa12])]
def fa39U : TRs := [(46,[fa12])]
def fa40U : TRs := [(33,[fa38]),(66,[fa39])]
def fa41U : TRs := [(56,[fa33])]
def fa42U : TRs := []
def fa43U : TRs := [(41,[fa42])]
def fa44U : TRs := []
def fa45U : TRs := [(46,[fa12])]
def fa46U : TRs := [(46,[fa12])]
def fa47U : TRs := [(46,[fa12])]
def fa48U : TRs := [(41,[fa42])]
def fa49U : TRs := [(192,[fa18]),(41,[fa42])]
def fa50U : TRs := []
def fa51U : TRs := [(41,[fa50])]
def fa52U : TRs := [(31,[fa51])]
def fa53U : TRs := []
def fa54U : TRs := [(31,[fa51])]
def fa55U : TRs := []
def fa56U : TRs := []
def fa57U : TRs := [(89,[fa56])]
def fa58U : TRs := [(56,[fa57])]
def fa59U : TRs := [(41,[fa50]),(194,[fa52]),(204,[fa53]),(150,[fa54]),(56,[fa55]),(195,[fa58])]
def fa60U : TRs := [(151,[fa49]),(89,[fa56])]
def fa61U : TRs := []
def fa62U : TRs := []
def fa63U : TRs := [(46,[fa12])]
def fa64U : TRs := [(46,[fa12])]
def fa65U : TRs := [(56,[fa57])]
def fa66U : TRs := [(46,[fa5])]
def fa67U : TRs := [(151,[fa20])]
def fa68U : TRs := []
def fa69U : TRs := []
def fa70U : TRs := [(33,[fa38]),(66,[fa39])]
def fa71U : TRs := [(56,[fa68])]
def fa72U : TRs := []
def fa73U : TRs := [(89,[fa72])]
def fa74U : TRs := [(47,[fa8]),(46,[fa12]),(118,[fa15]),(41,[fa42]),(9,[fa43]),(8,[fa44]),(11,[fa45,fa46,fa63,fa64]),(33,[fa47]),(150,[fa48]),(151,[fa49]),(56,[fa57]),(184,[fa59]),(154,[fa60]),(32,[fa61]),(29,[fa62]),(37,[fa65])]
def fa75U : TRs := []
def fa76U : TRs := [(41,[fa21]),(150,[fa25]),(56,[fa27])]
def fa77U : TRs := [(219,[fa29]),(220,[fa76])]
def fa78U : TRs := [(41,[fa50]),(194,[fa52]),(204,[fa53]),(150,[fa54]),(56,[fa55]),(195,[fa58])]
def fa79U : TRs := [(47,[fa8]),(46,[fa12]),(118,[fa15]),(41,[fa42]),(9,[fa43]),(8,[fa44]),(11,[fa45,fa46,fa63,fa64]),(33,[fa47]),(150,[fa48]),(151,[fa49]),(56,[fa57]),(154,[fa60]),(32,[fa61]),(29,[fa62]),(37,[fa65]),(184,[fa78])]
def fa80U : TRs := [(47,[fa8]),(46,[fa12]),(118,[fa15]),(41,[fa42]),(9,[fa43]),(8,[fa44]),(11,[fa45,fa46,fa63,fa64]),(33,[fa47]),(150,[fa48]),(151,[fa49]),(56,[fa57]),(154,[fa60]),(32,[fa61]),(29,[fa62]),(37,[fa65]),(184,[fa78])]
def fa81U : TRs := [(41,[fa21]),(150,[fa25]),(56,[fa27]),(219,[fa29])]
def fa82U : TRs := [(41,[fa50]),(194,[fa52]),(204,[fa53]),(150,[fa54]),(56,[fa55]),(195,[fa58])]
def fa83U : TRs := [(47,[fa8]),(46,[fa12]),(118,[fa15]),(41,[fa42]),(9,[fa43]),(8,[fa44]),(11,[fa45,fa46,fa63,fa64]),(33,[fa47]),(150,[fa48]),(151,[fa49]),(56,[fa57]),(154,[fa60]),(32,[fa61]),(29,[fa62]),(37,[fa65]),(184,[fa82])]
def fa84U : TRs := [(47,[fa8]),(46,[fa12]),(118,[fa15]),(41,[fa42]),(9,[fa43]),(8,[fa44]),(11,[fa45,fa46,fa63,fa64]),(33,[fa47]),(150,[fa48]),(151,[fa49]),(56,[fa57]),(154,[fa60]),(32,[fa61]),(29,[fa62]),(37,[fa65]),(184,[fa82])]
def faX : TRs := [(11,[fa13,fa37,fa46,fa63])]
end
theorem fa1_B : truleZ Tryz.prog D0 [] fa1U [] [] [] 1000 fa1 = true := by kernel_rfl
theorem fa6_B : truleZ Tryz.prog D0 [] fa6U [] [] [] 1000 fa6 = true := by kernel_rfl
theorem fa8_B : truleZ Tryz.prog D0 [] fa8U [] [] [] 1000 fa8 = true := by kernel_rfl
theorem fa13_B : truleZ Tryz.prog faC13 [] fa13U [] [] [] 1000 fa13 = true := by kernel_rfl
theorem fa24_B : truleZ Tryz.prog faD faC fa24U [] [] [] 1000 fa24 = true := by kernel_rfl
theorem fa34_B : truleZ Tryz.prog D0 [] fa34U [] [] [] 1000 fa34 = true := by kernel_rfl
theorem fa37_B : truleZ Tryz.prog faC37 [] fa37U [] [] [] 1000 fa37 = true := by kernel_rfl
theorem fa38_B : truleZ Tryz.prog D0 [] fa38U [] [] [] 1000 fa38 = true := by kernel_rfl
theorem fa41_B : truleZ Tryz.prog D0 [] fa41U [] [] [] 1000 fa41 = true := by kernel_rfl
theorem fa43_B : truleZ Tryz.prog D0 [] fa43U [] [] [] 1000 fa43 = true := by kernel_rfl
theorem fa44_B : truleZ Tryz.prog D0 [] fa44U [] [] [] 1000 fa44 = true := by kernel_rfl
theorem fa57_B : truleZ Tryz.prog faD faC fa57U [] [] [] 1000 fa57 = true := by kernel_rfl
theorem fa66_B : truleZ Tryz.prog D0 [] fa66U [] [] [] 1000 fa66 = true := by kernel_rfl
theorem fa67_B : truleZ Tryz.prog faD faC fa67U [] [] [] 1000 fa67 = true := by kernel_rfl
theorem fa70_B : truleZ Tryz.prog D0 [] fa70U [] [] [] 1000 fa70 = true := by kernel_rfl
theorem fa72_B : truleZ Tryz.prog D0 [] fa72U [] [] [] 1000 fa72 = true := by kernel_rfl
theorem fa74_B : truleZ Tryz.prog faD faC fa74U [] [] [] 1000 fa74 = true := by kernel_rfl
theorem fa76_B : truleZ Tryz.prog faD faC fa76U [] [] [] 1000 fa76 = true := by kernel_rfl
theorem fa77_B : truleZ Tryz.prog faD faC fa77U [] [] [] 1000 fa77 = true := by kernel_rfl
theorem fa78_B : truleZ Tryz.prog faD faC fa78U [] [] [] 1000 fa78 = true := by kernel_rfl
theorem fa84_B : truleZ Tryz.prog faD faC fa84U [] [] [] 1000 fa84 = true := by kernel_rfl
theorem fa0_B : truleZ Tryz.prog D0 [] fa0U [] [] [] 1000 fa0 = true := by kernel_rfl
theorem fa2_B : truleZ Tryz.prog D0 [] fa2U [] [] [] 1000 fa2 = true := by kernel_rfl
theorem fa5_B : truleZ Tryz.prog D0 [] fa5U [] [] [] 1000 fa5 = true := by kernel_rfl
theorem fa16_B : truleZ Tryz.prog D0 [] fa16U [] [] [] 1000 fa16 = true := by kernel_rfl
theorem fa18_B : truleZ Tryz.prog D0 [] fa18U [] [] [] 1000 fa18 = true := by kernel_rfl
theorem fa25_B : truleZ Tryz.prog faD faC fa25U [] [] [] 1000 fa25 = true := by kernel_rfl
theorem fa27_B : truleZ Tryz.prog D0 [] fa27U [] [] [] 1000 fa27 = true := by kernel_rfl
theorem fa28_B : truleZ Tryz.prog faD faC fa28U [] [] [] 1000 fa28 = true := by kernel_rfl
theorem fa35_B : truleZ Tryz.prog D0 [] fa35U [] [] [] 1000 fa35 = true := by kernel_rfl
theorem fa40_B : truleZ Tryz.prog D0 [] fa40U [] [] [] 1000 fa40 = true := by kernel_rfl
theorem fa48_B : truleZ Tryz.prog D0 [] fa48U [] [] [] 1000 fa48 = true := by kernel_rfl
theorem fa49_B : truleZ Tryz.prog D0 [] fa49U [] [] [] 1000 fa49 = true := by kernel_rfl
theorem fa50_B : truleZ Tryz.prog D0 [] fa50U [] [] [] 1000 fa50 = true := by kernel_rfl
theorem fa52_B : truleZ Tryz.prog D0 [] fa52U [] [] [] 1000 fa52 = true := by kernel_rfl
theorem fa53_B : truleZ Tryz.prog D0 [] fa53U [] [] [] 1000 fa53 = true := by kernel_rfl
theorem fa56_B : truleZ Tryz.prog faD faC fa56U [] [] [] 1000 fa56 = true := by kernel_rfl
theorem fa59_B : truleZ Tryz.prog faD faC fa59U [] [] [] 1000 fa59 = true := by kernel_rfl
theorem fa62_B : truleZ Tryz.prog D0 [] fa62U [] [] [] 1000 fa62 = true := by kernel_rfl
theorem fa68_B : truleZ Tryz.prog D0 [] fa68U [] [] [] 1000 fa68 = true := by kernel_rfl
theorem fa69_B : truleZ Tryz.prog D0 [] fa69U [] [] [] 1000 fa69 = true := by kernel_rfl
theorem fa79_B : truleZ Tryz.prog faD faC fa79U [] [] [] 1000 fa79 = true := by kernel_rfl
theorem fa3_B : truleZ Tryz.prog D0 [] fa3U [] [] [] 1000 fa3 = true := by kernel_rfl
theorem fa7_B : truleZ Tryz.prog D0 [] fa7U [] [] [] 1000 fa7 = true := by kernel_rfl
theorem fa11_B : truleZ Tryz.prog faD faC fa11U [] [] [] 1000 fa11 = true := by kernel_rfl
theorem fa12_B : truleZ Tryz.prog D0 [] fa12U [] [] [] 1000 fa12 = true := by kernel_rfl
theorem fa20_B : truleZ Tryz.prog faD faC fa20U [] [] [] 1000 fa20 = true := by kernel_rfl
theorem fa21_B : truleZ Tryz.prog D0 [] fa21U [] [] [] 1000 fa21 = true := by kernel_rfl
theorem fa23_B : truleZ Tryz.prog faD faC fa23U [] [] [] 1000 fa23 = true := by kernel_rfl
theorem fa29_B : truleZ Tryz.prog D0 [] fa29U [] [] [] 1000 fa29 = true := by kernel_rfl
theorem fa32_B : truleZ Tryz.prog faD faC fa32U [] [] [] 1000 fa32 = true := by kernel_rfl
theorem fa33_B : truleZ Tryz.prog D0 [] fa33U [] [] [] 1000 fa33 = true := by kernel_rfl
theorem fa36_B : truleZ Tryz.prog D0 [] fa36U [] [] [] 1000 fa36 = true := by kernel_rfl
theorem fa39_B : truleZ Tryz.prog D0 [] fa39U [] [] [] 1000 fa39 = true := by kernel_rfl
theorem fa45_B : truleZ Tryz.prog D0 [] fa45U [] [] [] 1000 fa45 = true := by kernel_rfl
theorem fa47_B : truleZ Tryz.prog D0 [] fa47U [] [] [] 1000 fa47 = true := by kernel_rfl
theorem fa51_B : truleZ Tryz.prog D0 [] fa51U [] [] [] 1000 fa51 = true := by kernel_rfl
theorem fa58_B : truleZ Tryz.prog faD faC fa58U [] [] [] 1000 fa58 = true := by kernel_rfl
theorem fa60_B : truleZ Tryz.prog faD faC fa60U [] [] [] 1000 fa60 = true := by kernel_rfl
theorem fa65_B : truleZ Tryz.prog faD faC fa65U [] [] [] 1000 fa65 = true := by kernel_rfl
theorem fa73_B : truleZ Tryz.prog D0 [] fa73U [] [] [] 1000 fa73 = true := by kernel_rfl
theorem fa75_B : truleZ Tryz.prog D0 [] fa75U [] [] [] 1000 fa75 = true := by kernel_rfl
theorem fa80_B : truleZ Tryz.prog faD faC fa80U [] [] [] 1000 fa80 = true := by kernel_rfl
theorem fa4_B : truleZ Tryz.prog D0 [] fa4U [] [] [] 1000 fa4 = true := by kernel_rfl
theorem fa9_B : truleZ Tryz.prog D0 [] fa9U [] [] [] 1000 fa9 = true := by kernel_rfl
theorem fa10_B : truleZ Tryz.prog faD faC fa10U [] [] [] 1000 fa10 = true := by kernel_rfl
theorem fa14_B : truleZ Tryz.prog D0 [] fa14U [] [] [] 1000 fa14 = true := by kernel_rfl
theorem fa15_B : truleZ Tryz.prog D0 [] fa15U [] [] [] 1000 fa15 = true := by kernel_rfl
theorem fa17_B : truleZ Tryz.prog faD faC fa17U [] [] [] 1000 fa17 = true := by kernel_rfl
theorem fa19_B : truleZ Tryz.prog D0 [] fa19U [] [] [] 1000 fa19 = true := by kernel_rfl
theorem fa22_B : truleZ Tryz.prog faD faC fa22U [] [] [] 1000 fa22 = true := by kernel_rfl
theorem fa26_B : truleZ Tryz.prog D0 [] fa26U [] [] [] 1000 fa26 = true := by kernel_rfl
theorem fa30_B : truleZ Tryz.prog faD faC fa30U [] [] [] 1000 fa30 = true := by kernel_rfl
theorem fa31_B : truleZ Tryz.prog D0 [] fa31U [] [] [] 1000 fa31 = true := by kernel_rfl
theorem fa42_B : truleZ Tryz.prog D0 [] fa42U [] [] [] 1000 fa42 = true := by kernel_rfl
theorem fa46_B : truleZ Tryz.prog faC46 [] fa46U [] [] [] 1000 fa46 = true := by kernel_rfl
theorem fa54_B : truleZ Tryz.prog D0 [] fa54U [] [] [] 1000 fa54 = true := by kernel_rfl
theorem fa55_B : truleZ Tryz.prog faD faC fa55U [] [] [] 1000 fa55 = true := by kernel_rfl
theorem fa61_B : truleZ Tryz.prog faD faC fa61U [] [] [] 1000 fa61 = true := by kernel_rfl
theorem fa63_B : truleZ Tryz.prog faC63 [] fa63U [] [] [] 1000 fa63 = true := by kernel_rfl
theorem fa64_B : truleZ Tryz.prog D0 [] fa64U [] [] [] 1000 fa64 = true := by kernel_rfl
theorem fa71_B : truleZ Tryz.prog D0 [] fa71U [] [] [] 1000 fa71 = true := by kernel_rfl
theorem fa81_B : truleZ Tryz.prog faD faC fa81U [] [] [] 1000 fa81 = true := by kernel_rfl
theorem fa82_B : truleZ Tryz.prog faD faC fa82U [] [] [] 1000 fa82 = true := by kernel_rfl
theorem fa83_B : truleZ Tryz.prog faD faC fa83U [] [] [] 1000 fa83 = true := by kernel_rfl
noncomputable def faU001 : TRs := [(6,[fa0]),(7,[fa6]),(41,[fa7,fa42,fa50]),(47,[fa8]),(42,[fa9]),(9,[fa10,fa43]),(8,[fa11,fa44]),(46,[fa12]),(33,[fa14,fa47]),(118,[fa15]),(94,[fa16]),(150,[fa17,fa48,fa54]),(151,[fa20,fa49]),(194,[fa23,fa52]),(204,[fa24,fa53]),(55,[fa35]),(11,[fa45,fa64,fa70]),(29,[fa62]),(13,[fa66]),(154,[fa67]),(56,[fa68,fa73]),(32,[fa69]),(37,[fa71]),(89,[fa72])]
noncomputable def faL001 : LHs := [(17,[⟨6,[0,1,5,6,7,42],43,0,3,[.arg 0 0,.cell 0 1,.cell 0 5,.cell 0 6,.cell 0 7,.cell 0 8,.cell 1 3,.cell 1 4,.cell 1 8,.cell 1 9,.cell 3 0,.cell 3 1,.cell 3 2,.cell 3 3,.cell 3 4,.cell 3 5,.cell 14 0],.n .i64 0,71,[]⟩,⟨6,[0,1,5,6,7,42],43,0,3,[.arg 0 0,.cell 0 1,.cell 0 5,.cell 0 6,.cell 0 7,.cell 0 8,.cell 1 3,.cell 1 4,.cell 1 8,.cell 1 9,.cell 3 0,.cell 3 1,.cell 3 2,.cell 3 3,.cell 3 4,.cell 3 5,.cell 4 0,.cell 14 0],.n .i64 72,70,[]⟩,⟨6,[0,1,5,6,7,42],43,0,3,[.arg 0 0,.cell 0 1,.cell 0 5,.cell 0 6,.cell 0 7,.cell 0 8,.cell 1 3,.cell 1 4,.cell 1 8,.cell 1 9,.cell 3 0,.cell 3 1,.cell 3 2,.cell 3 3,.cell 3 4,.cell 3 5,.cell 4 0,.cell 14 0],.n .i64 144,71,[]⟩,⟨6,[0,1,5,6,7,42],43,0,3,[.arg 0 0,.cell 0 1,.cell 0 5,.cell 0 6,.cell 0 7,.cell 0 8,.cell 1 3,.cell 1 4,.cell 1 8,.cell 1 9,.cell 3 0,.cell 3 1,.cell 3 2,.cell 3 3,.cell 3 4,.cell 3 5,.cell 4 0,.cell 14 0],.n .i64 216,70,[]⟩])]
theorem faR001 : faRun 0 0 1 faU001 faX faL001 = true := by kernel_rfl
noncomputable def faU003 : TRs := [(6,[fa0]),(7,[fa6]),(41,[fa7]),(42,[fa9]),(9,[fa10]),(8,[fa11]),(33,[fa14]),(94,[fa16]),(150,[fa17]),(151,[fa20]),(194,[fa23]),(204,[fa24]),(213,[fa30]),(55,[fa35]),(13,[fa66]),(154,[fa67]),(56,[fa68]),(32,[fa69]),(11,[fa70]),(37,[fa71]),(17,[fa74]),(195,[fa75])]
noncomputable def faL003 : LHs := [(17,[⟨6,[0,1,5,6,7,42],43,0,3,[.arg 0 0,.cell 0 1,.cell 0 5,.cell 0 6,.cell 0 7,.cell 0 8,.cell 1 3,.cell 1 4,.cell 1 8,.cell 1 9,.cell 3 0,.cell 3 1,.cell 3 2,.cell 3 3,.cell 3 4,.cell 3 5,.cell 14 0],.n .i64 0,71,[]⟩,⟨6,[0,1,5,6,7,42],43,0,3,[.arg 0 0,.cell 0 1,.cell 0 5,.cell 0 6,.cell 0 7,.cell 0 8,.cell 1 3,.cell 1 4,.cell 1 8,.cell 1 9,.cell 3 0,.cell 3 1,.cell 3 2,.cell 3 3,.cell 3 4,.cell 3 5,.cell 4 0,.cell 14 0],.n .i64 72,70,[]⟩])]
theorem faR003 : faRun 0 0 3 faU003 faX faL003 = true := by kernel_rfl
noncomputable def faU103 : TRs := [(6,[fa0]),(7,[fa6]),(41,[fa7]),(42,[fa9]),(9,[fa10]),(8,[fa11]),(33,[fa14]),(94,[fa16]),(150,[fa17]),(151,[fa20]),(194,[fa23]),(204,[fa24]),(220,[fa28]),(219,[fa29]),(55,[fa35]),(13,[fa66]),(154,[fa67]),(56,[fa68]),(32,[fa69]),(11,[fa70]),(37,[fa71]),(195,[fa75]),(213,[fa77]),(17,[fa80])]
noncomputable def faL103 : LHs := [(17,[⟨6,[0,1,5,6,7,42],43,0,3,[.arg 0 0,.cell 0 1,.cell 0 5,.cell 0 6,.cell 0 7,.cell 0 8,.cell 1 3,.cell 1 4,.cell 1 8,.cell 1 9,.cell 3 0,.cell 3 1,.cell 3 2,.cell 3 3,.cell 3 4,.cell 3 5,.cell 14 0],.n .i64 0,71,[]⟩,⟨6,[0,1,5,6,7,42],43,0,3,[.arg 0 0,.cell 0 1,.cell 0 5,.cell 0 6,.cell 0 7,.cell 0 8,.cell 1 3,.cell 1 4,.cell 1 8,.cell 1 9,.cell 3 0,.cell 3 1,.cell 3 2,.cell 3 3,.cell 3 4,.cell 3 5,.cell 4 0,.cell 14 0],.n .i64 72,70,[]⟩])]
theorem faR103 : faRun 1 0 3 faU103 faX faL103 = true := by kernel_rfl
noncomputable def faU110 : TRs := [(6,[fa0]),(7,[fa6]),(41,[fa7]),(42,[fa9]),(9,[fa10]),(8,[fa11]),(33,[fa14]),(94,[fa16]),(150,[fa17]),(151,[fa20]),(194,[fa23]),(204,[fa24]),(220,[fa28,fa76]),(219,[fa29]),(195,[fa31]),(154,[fa32]),(56,[fa33]),(32,[fa34]),(29,[fa36]),(11,[fa40]),(37,[fa41]),(13,[fa66]),(213,[fa81]),(17,[fa83])]
noncomputable def faL110 : LHs := [(17,[⟨6,[0,1,5,6,7,42],43,0,3,[.arg 0 0,.cell 0 1,.cell 0 5,.cell 0 6,.cell 0 7,.cell 0 8,.cell 1 3,.cell 1 4,.cell 1 8,.cell 1 9,.cell 3 0,.cell 3 1,.cell 3 2,.cell 3 3,.cell 3 4,.cell 3 5,.cell 14 0],.n .i64 0,71,[]⟩,⟨6,[0,1,5,6,7,42],43,0,3,[.arg 0 0,.cell 0 1,.cell 0 5,.cell 0 6,.cell 0 7,.cell 0 8,.cell 1 3,.cell 1 4,.cell 1 8,.cell 1 9,.cell 3 0,.cell 3 1,.cell 3 2,.cell 3 3,.cell 3 4,.cell 3 5,.cell 4 0,.cell 14 0],.n .i64 72,70,[]⟩])]
theorem faR110 : faRun 1 1 0 faU110 faX faL110 = true := by kernel_rfl
noncomputable def faU121 : TRs := [(6,[fa0]),(7,[fa6]),(41,[fa7]),(42,[fa9]),(9,[fa10]),(8,[fa11]),(33,[fa14]),(94,[fa16]),(150,[fa17]),(151,[fa20]),(194,[fa23]),(204,[fa24]),(220,[fa28,fa76]),(219,[fa29]),(55,[fa35]),(13,[fa66]),(154,[fa67]),(56,[fa68]),(32,[fa69]),(11,[fa70]),(37,[fa71]),(195,[fa75]),(17,[fa80])]
noncomputable def faL121 : LHs := [(17,[⟨6,[0,1,5,6,7,42],43,0,3,[.arg 0 0,.cell 0 1,.cell 0 5,.cell 0 6,.cell 0 7,.cell 0 8,.cell 1 3,.cell 1 4,.cell 1 8,.cell 1 9,.cell 3 0,.cell 3 1,.cell 3 2,.cell 3 3,.cell 3 4,.cell 3 5,.cell 14 0],.n .i64 0,71,[]⟩,⟨6,[0,1,5,6,7,42],43,0,3,[.arg 0 0,.cell 0 1,.cell 0 5,.cell 0 6,.cell 0 7,.cell 0 8,.cell 1 3,.cell 1 4,.cell 1 8,.cell 1 9,.cell 3 0,.cell 3 1,.cell 3 2,.cell 3 3,.cell 3 4,.cell 3 5,.cell 4 0,.cell 14 0],.n .i64 72,70,[]⟩])]
theorem faR121 : faRun 1 2 1 faU121 faX faL121 = true := by kernel_rfl
noncomputable def faU210 : TRs := [(6,[fa0]),(7,[fa6]),(41,[fa7]),(42,[fa9]),(9,[fa10]),(8,[fa11]),(33,[fa14]),(94,[fa16]),(150,[fa17]),(151,[fa20]),(194,[fa23]),(204,[fa24]),(220,[fa28,fa76]),(219,[fa29]),(195,[fa31,fa75]),(154,[fa32]),(56,[fa33]),(32,[fa34]),(29,[fa36]),(11,[fa40]),(37,[fa41]),(13,[fa66]),(213,[fa81]),(17,[fa83])]
noncomputable def faL210 : LHs := [(17,[⟨6,[0,1,5,6,7,42],43,0,3,[.arg 0 0,.cell 0 1,.cell 0 5,.cell 0 6,.cell 0 7,.cell 0 8,.cell 1 3,.cell 1 4,.cell 1 8,.cell 1 9,.cell 3 0,.cell 3 1,.cell 3 2,.cell 3 3,.cell 3 4,.cell 3 5,.cell 14 0],.n .i64 0,71,[]⟩,⟨6,[0,1,5,6,7,42],43,0,3,[.arg 0 0,.cell 0 1,.cell 0 5,.cell 0 6,.cell 0 7,.cell 0 8,.cell 1 3,.cell 1 4,.cell 1 8,.cell 1 9,.cell 3 0,.cell 3 1,.cell 3 2,.cell 3 3,.cell 3 4,.cell 3 5,.cell 4 0,.cell 14 0],.n .i64 72,70,[]⟩])]
theorem faR210 : faRun 2 1 0 faU210 faX faL210 = true := by kernel_rfl
noncomputable def faU221 : TRs := [(6,[fa0]),(7,[fa6]),(41,[fa7]),(42,[fa9]),(9,[fa10]),(8,[fa11]),(33,[fa14]),(94,[fa16]),(150,[fa17]),(151,[fa20]),(194,[fa23]),(204,[fa24]),(220,[fa28,fa76]),(219,[fa29]),(55,[fa35]),(13,[fa66]),(154,[fa67]),(56,[fa68]),(32,[fa69]),(11,[fa70]),(37,[fa71]),(195,[fa75]),(17,[fa80])]
noncomputable def faL221 : LHs := [(17,[⟨6,[0,1,5,6,7,42],43,0,3,[.arg 0 0,.cell 0 1,.cell 0 5,.cell 0 6,.cell 0 7,.cell 0 8,.cell 1 3,.cell 1 4,.cell 1 8,.cell 1 9,.cell 3 0,.cell 3 1,.cell 3 2,.cell 3 3,.cell 3 4,.cell 3 5,.cell 14 0],.n .i64 0,71,[]⟩,⟨6,[0,1,5,6,7,42],43,0,3,[.arg 0 0,.cell 0 1,.cell 0 5,.cell 0 6,.cell 0 7,.cell 0 8,.cell 1 3,.cell 1 4,.cell 1 8,.cell 1 9,.cell 3 0,.cell 3 1,.cell 3 2,.cell 3 3,.cell 3 4,.cell 3 5,.cell 4 0,.cell 14 0],.n .i64 72,70,[]⟩])]
theorem faR221 : faRun 2 2 1 faU221 faX faL221 = true := by kernel_rfl
end Go.Proofs.YtnajikpdnccilaaGreat.Pv.M
