/- What the law TopCounts needs, and no more: merged out of texts of this session by a program of it (wip/tools/prune.py). -/
import Derived.Test.YtmingcnmgdgokaaGreatQTopCounts2
set_option linter.unusedVariables false
set_option linter.unusedSimpArgs false
namespace Go.Proofs.YtmingcnmgdgokaaGreat.Pv.M
open Go
section
variable {ρ : Nat → Int}{P : Program}{D : Dm}{s : Option Sg}{f : Nat → Nat}{φ1 φ2 : Nat → Ph}{m nx2 : Nat}
theorem sumS_ok {φ : Nat → Ph}{nx nx' : Nat}{φ' : Nat → Ph}{k : IntKind}{c : Int}{l : List Int} (v : Value) : Rel ρ φ nx (sumS s k c l) v ↔ Rel (sgS ρ s) φ' nx' (.a k c l) v := by
  rw [int_rel]
  cases s with
  | none => show Rel ρ φ nx (.a k c l) v ↔ _; rw [int_rel]; rfl
  | some σ =>
    have h := subN_ok (ρ := ρ) (φ := φ) (nx := nx) (σ := σ) (k := k) (c := c) (l := l) v
    rw [int_rel] at h
    exact h
theorem row2 {R R' : MV → Value → Prop}{g : MV → MV}{cs : List MV} (h : ∀ (i : Nat) c,cs[i]? = some c → ∀ v,R (g c) v ↔ R' c v) {vs : Array Value} :
    (vs.size = (cs.map g).length ∧ ∀ (i : Nat) c u,(cs.map g)[i]? = some c → vs[i]? = some u → R c u) ↔ (vs.size = cs.length ∧ ∀ (i : Nat) c u,cs[i]? = some c → vs[i]? = some u → R' c u) := by
  rw [List.length_map]
  refine and_congr_right fun _ => ⟨fun h1 i c u hc hu => (h i c hc u).1 (h1 i (g c) u (by rw [List.getElem?_map,hc]; rfl) hu),fun h1 i c u hc hu => ?_⟩
  rw [List.getElem?_map] at hc
  cases hq : cs[i]? with
  | none => rw [hq] at hc; cases hc
  | some d => rw [hq] at hc; cases hc; exact (h i d hq u).2 (h1 i d u hq hu)
theorem subS_iff (hp : ∀ n,n < m → φ2 (f n) = φ1 n ∧ f n < nx2) (x : MV) : hasV (ltB m) x = true → ∀ v,(Rel ρ φ2 nx2 (subS s f x) v ↔ Rel (sgS ρ s) φ1 m x v) := by
  have mem : ∀ {l : List MV},allB (hasV (ltB m)) l = true → (∀ (i : Nat) c,l[i]? = some c → hasV (ltB m) c = true → ∀ v,(Rel ρ φ2 nx2 (subS s f c) v ↔ Rel (sgS ρ s) φ1 m c v)) → ∀ (i : Nat) c,l[i]? = some c → ∀ v,(Rel ρ φ2 nx2 (subS s f c) v ↔ Rel (sgS ρ s) φ1 m c v) :=
    fun ha h i c hc => h i c hc (allB_inv ha c (List.mem_of_getElem? hc))
  refine @MV.rec (fun x => hasV (ltB m) x = true → ∀ v,(Rel ρ φ2 nx2 (subS s f x) v ↔ Rel (sgS ρ s) φ1 m x v)) (fun l => ∀ (i : Nat) c,l[i]? = some c → hasV (ltB m) c = true → ∀ v,(Rel ρ φ2 nx2 (subS s f c) v ↔ Rel (sgS ρ s) φ1 m c v)) ?_ ?_ ?_ ?_ ?_ ?_ ?_ ?_ ?_ ?_ ?_ ?_ ?_ x
  · intro x _ v; exact ⟨fun h => by cases h; exact .v x,fun h => by cases h; exact .v x⟩
  · intro x _ v; exact ⟨fun h => by cases h; exact .b x,fun h => by cases h; exact .b x⟩
  · intro k c _ v; exact ⟨fun h => by cases h; exact .n k c,fun h => by cases h; exact .n k c⟩
  · intro k c l _ v; exact sumS_ok v
  · intro n o hx v
    obtain ⟨e,l⟩ := hp n (of_decide_eq_true hx)
    show Rel ρ φ2 nx2 (.ptr (f n) o) v ↔ _
    constructor
    · intro h; cases h; rw [e]; exact .ptr (of_decide_eq_true hx)
    · intro h; cases h; rw [← e]; exact .ptr l
  · intro sz n o l c hx v
    obtain ⟨e,hl⟩ := hp n (of_decide_eq_true hx)
    show Rel ρ φ2 nx2 (.sl sz (f n) o l c) v ↔ _
    constructor
    · intro h; cases h with|sl h1 h2 h3 h4 h5 => rw [e] at h4 h5; exact .sl (of_decide_eq_true hx) h2 h3 h4 h5
    · intro h; cases h with|sl h1 h2 h3 h4 h5 => rw [← e] at h4 h5; exact .sl hl h2 h3 h4 h5
  · intro cs ih hx v
    rw [hasV_agg] at hx
    have h := mem hx ih
    rw [subS_agg]
    constructor
    · intro hr; cases hr with
      | agg _ vs h1 h2 h3 => obtain ⟨a,b⟩ := (row2 h).1 ⟨h1,h3⟩; exact .agg cs vs a h2 b
    · intro hr; cases hr with
      | agg _ vs h1 h2 h3 => obtain ⟨a,b⟩ := (row2 h).2 ⟨h1,h3⟩; exact .agg _ vs a h2 b
  · intro cs ih hx v
    rw [hasV_tup] at hx
    have h := mem hx ih
    rw [subS_tup]
    constructor
    · intro hr; cases hr with
      | tup _ vs h1 h3 => obtain ⟨a,b⟩ := (row2 h).1 ⟨h1,h3⟩; exact .tup cs vs a b
    · intro hr; cases hr with
      | tup _ vs h1 h3 => obtain ⟨a,b⟩ := (row2 h).2 ⟨h1,h3⟩; exact .tup _ vs a b
  · intro g cs ds i1 i2 hx v
    rw [hasV_clo] at hx
    obtain ⟨hx1,hx2⟩ := oc_inv hx
    have h := mem hx1 i1
    have h2 := mem hx2 i2
    rw [subS_clo]
    constructor
    · intro hr; cases hr with
      | clo _ _ _ xs ys a1 a2 a3 a4 => obtain ⟨a,b⟩ := (row2 h).1 ⟨a1,a2⟩; obtain ⟨a',b'⟩ := (row2 h2).1 ⟨a3,a4⟩; exact .clo g cs ds xs ys a b a' b'
    · intro hr; cases hr with
      | clo _ _ _ xs ys a1 a2 a3 a4 => obtain ⟨a,b⟩ := (row2 h).2 ⟨a1,a2⟩; obtain ⟨a',b'⟩ := (row2 h2).2 ⟨a3,a4⟩; exact .clo g _ _ xs ys a b a' b'
  · intro n hx v
    obtain ⟨e,l⟩ := hp n (of_decide_eq_true hx)
    show Rel ρ φ2 nx2 (.mp (f n)) v ↔ _
    constructor
    · intro h; cases h; rw [e]; exact .mp (of_decide_eq_true hx)
    · intro h; cases h; rw [← e]; exact .mp l
  · intro t x ih hx v
    show Rel ρ φ2 nx2 (.ifc t (subS s f x)) v ↔ _
    constructor
    · intro hr; cases hr with
      | ifc _ _ u h1 => exact .ifc t x u ((ih hx u).1 h1)
    · intro hr; cases hr with
      | ifc _ _ u h1 => exact .ifc t _ u ((ih hx u).2 h1)
  · intro i c hc; simp at hc
  · intro x t i1 i2 i c hc
    cases i with
    | zero => simp at hc; subst hc; exact i1
    | succ i => exact i2 i c (by simpa using hc)
theorem subSO_iff (hp : ∀ n,n < m → φ2 (f n) = φ1 n ∧ f n < nx2) {n : Nat} (hn : φ2 (f n) = φ1 n) {o : MO} (ho : hasO (ltB m) o = true) {w : World} : ObjOk ρ φ2 nx2 w (f n) (subSO s f o) ↔ ObjOk (sgS ρ s) φ1 m w n o := by
  cases o with
  | cells l =>
    have ho : allB (hasV (ltB m)) l = true := ho
    have h : ∀ (i : Nat) c,l[i]? = some c → ∀ v,(Rel ρ φ2 nx2 (subS s f c) v ↔ Rel (sgS ρ s) φ1 m c v) := fun i c hc => subS_iff hp c (allB_inv ho c (List.mem_of_getElem? hc))
    constructor
    · rintro ⟨arr,ty,h1,h2,h3⟩
      rw [hn] at h1 h2 h3
      refine ⟨arr,ty,h1,h2,fun i c hc => ?_⟩
      obtain ⟨u,a,b,e⟩ := h3 i (subS s f c) (by rw [List.getElem?_map,hc]; rfl)
      exact ⟨u,a,b,(h i c hc u).1 e⟩
    · rintro ⟨arr,ty,h1,h2,h3⟩
      rw [← hn] at h1 h2 h3
      refine ⟨arr,ty,h1,h2,fun i c hc => ?_⟩
      rw [List.getElem?_map] at hc
      cases hq : l[i]? with
      | none => rw [hq] at hc; cases hc
      | some d =>
        rw [hq] at hc; cases hc
        obtain ⟨u,a,b,e⟩ := h3 i d hq
        exact ⟨u,a,b,(h i d hq u).2 e⟩
  | map es =>
    have ho : allB (fun e => oc (hasV (ltB m) e.1) (hasV (ltB m) e.2)) es = true := ho
    have h : ∀ (i : Nat) c,es[i]? = some c → (∀ v,(Rel ρ φ2 nx2 (subS s f c.1) v ↔ Rel (sgS ρ s) φ1 m c.1 v)) ∧ (∀ v,(Rel ρ φ2 nx2 (subS s f c.2) v ↔ Rel (sgS ρ s) φ1 m c.2 v)) := fun i c hc => by
      obtain ⟨a,b⟩ := oc_inv (allB_inv ho c (List.mem_of_getElem? hc))
      exact ⟨subS_iff hp _ a,subS_iff hp _ b⟩
    constructor
    · rintro ⟨ents,clock,h1,h2,h3⟩
      rw [hn] at h1
      refine ⟨ents,clock,h1,by rw [h2]; simp,fun i c hc => ?_⟩
      obtain ⟨e,a,b,d⟩ := h3 i (subS s f c.1,subS s f c.2) (by rw [List.getElem?_map,hc]; rfl)
      exact ⟨e,a,((h i c hc).1 _).1 b,((h i c hc).2 _).1 d⟩
    · rintro ⟨ents,clock,h1,h2,h3⟩
      rw [← hn] at h1
      refine ⟨ents,clock,h1,by rw [h2]; simp,fun i c hc => ?_⟩
      rw [List.getElem?_map] at hc
      cases hq : es[i]? with
      | none => rw [hq] at hc; cases hc
      | some q =>
        rw [hq] at hc; cases hc
        obtain ⟨e,a,b,d⟩ := h3 i q hq
        exact ⟨e,a,((h i q hq).1 _).2 b,((h i q hq).2 _).2 d⟩
  | dead => exact ⟨fun _ => trivial,fun _ => trivial⟩
theorem subSO_dead {o : MO} : subSO s f o ≠ .dead ↔ o ≠ .dead := by cases o <;> simp [subSO]
theorem TB.ren {g : Nat}{args' args : List MV}{need K H Hf : Heap}{r : MV}{m2 nx : Nat} (h : TB (sgS ρ s) P g args m need r m2 K) (hmm : m ≤ m2)
    (hf1 : ∀ n,n < m → f n < nx) (hf2 : ∀ n,m ≤ n → f n = nx + (n - m)) (hinj : ∀ n q,n < m → q < m → f n = f q → n = q)
    (hl : args'.length = args.length) (ha : ∀ (i : Nat) a a',args[i]? = some a → args'[i]? = some a' → hasV (ltB m) a = true ∧ ∀ φ nx,Alike ρ φ nx ρ a' (subS s f a))
    (hneed : ∀ n o,look need n = some o → n < m ∧ hasO (ltB m) o = true ∧ ∃ o',look H (f n) = some o' ∧ ∀ φ nx,AlikeO ρ φ nx ρ o' (subSO s f o))
    (hr : hasV (ltB m2) r = true)
    (hHf : ∀ n' o',look Hf n' = some o' → (∃ n o,n < m2 ∧ look K n = some o ∧ hasO (ltB m2) o = true ∧ n' = f n ∧ ∀ φ nx,AlikeO ρ φ nx ρ o' (subSO s f o)) ∨ (look H n' = some o' ∧ ∀ n o,look need n = some o → f n ≠ n')) :
    TB ρ P g args' nx H (subS s f r) (nx + (m2 - m)) Hf := by
  refine ⟨h.1,fun w φ vals hok hsz hargs => ?_⟩
  have hψ : ∀ n,n < m → φ (f n) = (fun n => φ (f n)) n ∧ f n < nx := fun n hn => ⟨rfl,hf1 n hn⟩
  have hdead : ∀ {o o' : MO},(∀ φ nx,AlikeO ρ φ nx ρ o' (subSO s f o)) → (o' ≠ .dead ↔ o ≠ .dead) := fun d => (AlikeO.dead (d φ nx)).trans subSO_dead
  have hok' : Ok (sgS ρ s) (fun n => φ (f n)) m need w := by
    refine ⟨fun n o hn => ?_,fun n q o o' h1 h2 hne d1 d2 => ?_⟩
    · obtain ⟨a,b,o',c,d⟩ := hneed n o hn
      exact ⟨a,(subSO_iff hψ rfl b).1 (((d φ nx).2 w (f n)).1 (hok.obj _ _ c).2)⟩
    · obtain ⟨a1,_,o1,c1,e1⟩ := hneed n o h1
      obtain ⟨a2,_,o2,c2,e2⟩ := hneed q o' h2
      exact hok.dis (f n) (f q) o1 o2 c1 c2 (fun e => hne (hinj n q a1 a2 e)) ((hdead e1).2 d1) ((hdead e2).2 d2)
  refine (h.2 w (fun n => φ (f n)) vals hok' (by omega) fun i a v h1 h2 => ?_).mono ?_
  · have hlt : i < args'.length := by have := (List.getElem?_eq_some_iff.1 h1).1; omega
    obtain ⟨b,e⟩ := ha i a args'[i] h1 (by simp [hlt])
    exact (subS_iff hψ a b v).1 ((e φ nx v).1 (hargs i args'[i] v (by simp [hlt]) h2))
  rintro e w' ⟨φ1,v,he,hok1,hrv,hext,hle,hφ⟩
  have hφ2 : ∀ n,n < m2 → (fun k => if k < nx then φ k else φ1 (m + (k - nx))) (f n) = φ1 n ∧ f n < nx + (m2 - m) := by
    intro n hn
    by_cases c : n < m
    · have := hf1 n c
      exact ⟨by show (if f n < nx then _ else _) = _; rw [if_pos this]; exact (hφ n c).symm,by omega⟩
    · have e := hf2 n (by omega)
      refine ⟨?_,by omega⟩
      show (if f n < nx then _ else _) = _
      rw [if_neg (by omega),show m + (f n - nx) = n by omega]
  have hold : ∀ n,n < nx → (fun k => if k < nx then φ k else φ1 (m + (k - nx))) n = φ n := fun n hn => if_pos hn
  generalize (fun k => if k < nx then φ k else φ1 (m + (k - nx))) = φ2 at hφ2 hold
  have same : ∀ n' o',look H n' = some o' → (∀ n o,look need n = some o → f n ≠ n') → ObjOk ρ φ2 (nx + (m2 - m)) w' n' o' := by
    intro n' o' h1 h2
    obtain ⟨a,b⟩ := hok.obj n' o' h1
    refine b.step hold (by omega) a fun hd => hext.blk _ (b.lt hd) ?_
    rintro ⟨q,o2,q1,q2,q3⟩
    obtain ⟨_,_,o3,c,d⟩ := hneed q o2 q1
    exact hok.dis (f q) n' o3 o' c h1 (h2 q o2 q1) ((hdead d).2 q2) hd q3
  have mixed : ∀ n n' o o',look K n = some o → look H n' = some o' → (∀ n o,look need n = some o → f n ≠ n') → o ≠ .dead → o' ≠ .dead → (φ1 n).blk ≠ (φ n').blk := by
    intro n n' o o' h1 h3 h4 d1 d2 e
    have hlt := (hok.obj n' o' h3).2.lt d2
    obtain ⟨x,ox,x1,x2,x3⟩ := hext.own _ hlt ⟨n,o,h1,d1,e⟩
    obtain ⟨_,_,o3,c,d⟩ := hneed x ox x1
    exact hok.dis (f x) n' o3 o' c h3 (h4 x ox x1) ((hdead d).2 x2) d2 x3
  refine ⟨φ2,v,he,⟨fun n' o' hl => ?_,fun n' q' o o' h1 h2 hne d1 d2 => ?_⟩,(subS_iff hφ2 r hr v).2 hrv,⟨hext.os,hext.tape,hext.output,hext.size,fun b hb hO => hext.blk b hb ?_, ?_⟩,by omega,hold⟩
  · rcases hHf n' o' hl with ⟨n,o,a,b,c,rfl,d⟩|⟨a,b⟩
    · exact ⟨(hφ2 n a).2,((d φ2 _).2 w' (f n)).2 ((subSO_iff hφ2 (hφ2 n a).1 c).2 (hok1.obj n o b).2)⟩
    · exact ⟨by have := (hok.obj n' o' a).1; omega,same n' o' a b⟩
  · rcases hHf n' o h1 with ⟨n,q,a,b,c,rfl,d⟩|⟨a,b⟩ <;> rcases hHf q' o' h2 with ⟨n2,q2,a2,b2,c2,rfl,e2⟩|⟨a2,b2⟩
    · rw [(hφ2 n a).1,(hφ2 n2 a2).1]
      exact hok1.dis n n2 q q2 b b2 (fun e => hne (by rw [e])) ((hdead d).1 d1) ((hdead e2).1 d2)
    · rw [(hφ2 n a).1,hold q' (hok.obj q' o' a2).1]
      exact mixed n q' q o' b a2 b2 ((hdead d).1 d1) d2
    · rw [(hφ2 n2 a2).1,hold n' (hok.obj n' o a).1]
      exact fun e => mixed n2 n' q2 o b2 a b ((hdead e2).1 d2) d1 e.symm
    · rw [hold n' (hok.obj n' o a).1,hold q' (hok.obj q' o' a2).1]
      exact hok.dis n' q' o o' a a2 hne d1 d2
  · rintro ⟨q,o,q1,q2,q3⟩
    obtain ⟨_,_,o3,c,d⟩ := hneed q o q1
    exact hO ⟨f q,o3,c,(hdead d).2 q2,q3⟩
  · rintro b hb ⟨n',o',n1,n2,n3⟩
    rcases hHf n' o' n1 with ⟨n,q,a,b1,c,rfl,d⟩|⟨a,b1⟩
    · obtain ⟨x,ox,x1,x2,x3⟩ := hext.own b hb ⟨n,q,b1,(hdead d).1 n2,by rw [← (hφ2 n a).1]; exact n3⟩
      obtain ⟨_,_,o3,c3,d3⟩ := hneed x ox x1
      exact ⟨f x,o3,c3,(hdead d3).2 x2,x3⟩
    · exact ⟨n',o',a,n2,by rw [← hold n' (hok.obj n' o' a).1]; exact n3⟩
theorem sumB_ok {φ : Nat → Ph}{nx : Nat}{k : IntKind}{c : Int}{l : List Int}{b : MV} (h : sumB s k c l b = true) : ∀ u,Rel ρ φ nx b u ↔ Rel ρ φ nx (sumS s k c l) u := by
  intro u
  cases s with
  | none => rw [show sumS none k c l = .a k c l from rfl,int_rel]; exact eqK_ok (show eqK k c l b = true from h) u
  | some σ =>
    rw [show sumS (some σ) k c l = mk k (c + (subA σ l).1) (subA σ l).2 from rfl,mk_iff]
    exact eqK_ok (show eqK k (c + (subA σ l).1) (subA σ l).2 b = true from h) u
theorem eqW_agg : ∀ (cs ds : List MV),eqW s f (.agg cs) (.agg ds) = eqWL s f cs ds
  | [],ds => rfl
  | x :: t,[] => rfl
  | x :: t,y :: m => by
    show oc (eqW s f x y) (eqW s f (.agg t) (.agg m)) = oc (eqW s f x y) (eqWL s f t m)
    rw [eqW_agg t m]
theorem eqW_row {φ : Nat → Ph}{nx : Nat} : ∀ {l m : List MV},(∀ x ∈ l,∀ b,eqW s f x b = true → Alike ρ φ nx ρ b (subS s f x)) → eqWL s f l m = true → m.length = (l.map (subS s f)).length ∧ ∀ (i : Nat) c d,m[i]? = some c → (l.map (subS s f))[i]? = some d → Alike ρ φ nx ρ c d
  | [],m,_,h => by
    rw [nilB_nil (show nilB m = true from h)]
    exact ⟨rfl,fun i c d hc => by simp at hc⟩
  | x :: t,[],_,h => by cases (show false = true from h)
  | x :: t,y :: m,hx,h => by
    obtain ⟨h1,h2⟩ := oc_inv (show oc (eqW s f x y) (eqWL s f t m) = true from h)
    obtain ⟨h3,h4⟩ := eqW_row (fun z hz => hx z (List.mem_cons_of_mem _ hz)) h2
    refine ⟨by simp at h3; simp [h3],fun i c d hc hd => ?_⟩
    cases i with
    | zero => simp at hc hd; subst hc hd; exact hx x List.mem_cons_self y h1
    | succ i => exact h4 i c d (by simpa using hc) (by simpa using hd)
theorem eqW_ok {φ : Nat → Ph}{nx : Nat} (a : MV) : ∀ b,eqW s f a b = true → Alike ρ φ nx ρ b (subS s f a) := by
  refine @MV.rec (fun a => ∀ b,eqW s f a b = true → Alike ρ φ nx ρ b (subS s f a)) (fun l => ∀ x ∈ l,∀ b,eqW s f x b = true → Alike ρ φ nx ρ b (subS s f x)) ?_ ?_ ?_ ?_ ?_ ?_ ?_ ?_ ?_ ?_ ?_ ?_ ?_ a
  · intro x b h
    rcases onS_inv (show onS b _ _ _ = true from h) with ⟨_,_,_,_,_,_,h⟩|⟨_,_,_,h⟩|⟨y,rfl,h⟩
    · cases h
    · cases h
    · rw [eqX_ok h]; exact fun u => Iff.rfl
  · intro x b h
    rcases onB_inv (show onB b x (not x) = true from h) with ⟨e,hx⟩|⟨e,hx⟩
    · rw [e,hx]; exact fun u => Iff.rfl
    · have e2 : x = false := by simpa using hx
      rw [e,e2]; exact fun u => Iff.rfl
  · intro k c b h u
    rw [eqK_ok (show eqK k c [] b = true from h) u]
    show _ ↔ Rel ρ φ nx (.n k c) u
    rw [num_rel]; simp [dot]
  · intro k c l b h u
    exact sumB_ok h u
  · intro n o b h
    obtain ⟨m,p,rfl,h⟩ := onP_inv (show onP b _ = true from h)
    obtain ⟨h1,h2⟩ := oc_inv h
    show Alike ρ φ nx ρ (.ptr m p) (.ptr (f n) o)
    rw [Nat.eq_of_beq_eq_true h1,Nat.eq_of_beq_eq_true h2]; exact fun u => Iff.rfl
  · intro sz n o l c b h
    rcases onS_inv (show onS b _ _ _ = true from h) with ⟨sz',n',o',l',c',rfl,h⟩|⟨_,_,_,h⟩|⟨y,_,h⟩
    · obtain ⟨h1,h⟩ := oc_inv h
      obtain ⟨h2,h⟩ := oc_inv h
      obtain ⟨h3,h⟩ := oc_inv h
      obtain ⟨h4,h5⟩ := oc_inv h
      show Alike ρ φ nx ρ (.sl sz' n' o' l' c') (.sl sz (f n) o l c)
      rw [Nat.eq_of_beq_eq_true h1,Nat.eq_of_beq_eq_true h2,Nat.eq_of_beq_eq_true h3,Nat.eq_of_beq_eq_true h4,of_decide_eq_true h5]; exact fun u => Iff.rfl
    · cases h
    · cases h
  · intro cs ih b h
    cases b with
    | agg ds =>
      have h : eqW s f (.agg cs) (.agg ds) = true := h
      rw [eqW_agg] at h
      obtain ⟨h1,h2⟩ := eqW_row ih h
      rw [subS_agg]
      exact agg_alike h1 h2
    | _ => cases (show false = true from h)
  · intro cs ih b h
    cases b with
    | tup ds =>
      have h : eqW s f (.agg cs) (.agg ds) = true := h
      rw [eqW_agg] at h
      obtain ⟨h1,h2⟩ := eqW_row ih h
      rw [subS_tup]
      exact tup_alike h1 h2
    | _ => cases (show false = true from h)
  · intro g as0 bs i1 i2 b h
    cases b with
    | clo g' x y =>
      have h : oc (Nat.beq g g') (oc (eqW s f (.agg as0) (.agg x)) (eqW s f (.agg bs) (.agg y))) = true := h
      rw [eqW_agg,eqW_agg] at h
      obtain ⟨h1,h⟩ := oc_inv h
      obtain ⟨h2,h3⟩ := oc_inv h
      rw [subS_clo,← Nat.eq_of_beq_eq_true h1]
      exact clo_alike (eqW_row i1 h2).1 (eqW_row i1 h2).2 (eqW_row i2 h3).1 (eqW_row i2 h3).2
    | _ => cases (show false = true from h)
  · intro n b h
    obtain ⟨m,rfl,h⟩ := onM_inv (show onM b (fun m => Nat.beq (f n) m) = true from h)
    show Alike ρ φ nx ρ (.mp m) (.mp (f n))
    rw [Nat.eq_of_beq_eq_true h]; exact fun u => Iff.rfl
  · intro t x ih b h
    obtain ⟨u,y,rfl,h⟩ := onF_inv (show onF b (fun u y => oc (Nat.beq t u) (eqW s f x y)) = true from h)
    obtain ⟨h1,h2⟩ := oc_inv h
    show Alike ρ φ nx ρ (.ifc u y) (.ifc t (subS s f x))
    rw [← Nat.eq_of_beq_eq_true h1]
    exact ifc_alike (ih y h2)
  · intro x hx; cases hx
  · intro x t h1 h2 y hy
    rcases List.mem_cons.1 hy with rfl|hy
    · exact h1
    · exact h2 y hy
theorem eqWL_ok {φ : Nat → Ph}{nx : Nat}{l m : List MV} (h : eqWL s f l m = true) : m.length = (l.map (subS s f)).length ∧ ∀ (i : Nat) c d,m[i]? = some c → (l.map (subS s f))[i]? = some d → Alike ρ φ nx ρ c d :=
  eqW_row (fun x _ => eqW_ok x) h
theorem eqWR_ok {φ : Nat → Ph}{nx : Nat} : ∀ {l m : List (MV × MV)},eqWR s f l m = true → m.length = (l.map fun e => (subS s f e.1,subS s f e.2)).length ∧ ∀ (i : Nat) c d,m[i]? = some c → (l.map fun e => (subS s f e.1,subS s f e.2))[i]? = some d → Alike ρ φ nx ρ c.1 d.1 ∧ Alike ρ φ nx ρ c.2 d.2
  | [],m,h => by
    rw [nilB_nil (show nilB m = true from h)]
    exact ⟨rfl,fun i c d hc => by simp at hc⟩
  | x :: t,[],h => by cases (show false = true from h)
  | x :: t,y :: m,h => by
    obtain ⟨h1,h⟩ := oc_inv (show oc (eqW s f x.1 y.1) (oc (eqW s f x.2 y.2) (eqWR s f t m)) = true from h)
    obtain ⟨h2,h5⟩ := oc_inv h
    obtain ⟨h3,h4⟩ := eqWR_ok (φ := φ) (nx := nx) h5
    refine ⟨by simp at h3; simp [h3],fun i c d hc hd => ?_⟩
    cases i with
    | zero => simp at hc hd; subst hc hd; exact ⟨eqW_ok _ _ h1,eqW_ok _ _ h2⟩
    | succ i => exact h4 i c d (by simpa using hc) (by simpa using hd)
theorem eqWO_ok {φ : Nat → Ph}{nx : Nat}{a b : MO} (h : eqWO s f a b = true) : AlikeO ρ φ nx ρ b (subSO s f a) := by
  cases a with
  | cells l =>
    obtain ⟨m,rfl,h⟩ := onCells_inv (show onCells b (fun m => eqWL s f l m) = true from h)
    exact cells_alike (eqWL_ok (ρ := ρ) (φ := φ) (nx := nx) h).1 (eqWL_ok h).2
  | map l =>
    obtain ⟨m,rfl,h⟩ := onMap_inv (show onMap b (fun m => eqWR s f l m) = true from h)
    exact map_alike (eqWR_ok (ρ := ρ) (φ := φ) (nx := nx) h).1 (eqWR_ok h).2
  | dead =>
    cases b with
    | dead => exact ⟨Iff.rfl,fun w n => Iff.rfl⟩
    | _ => cases (show false = true from h)
theorem findN_length {args : List MV}{H : Heap} : ∀ {l : List Src}{nr nr' : List Nat}{c : Nat},findN args H l nr c = some nr' → nr'.length = nr.length + l.length
  | [],nr,nr',c,h => by cases (show some nr = some nr' from h); simp
  | x :: l,nr,nr',c,h => by
    obtain ⟨v,_,h⟩ := bo_some (show bo (valAt args H nr c x) _ = some nr' from h)
    obtain ⟨n,_,h⟩ := bo_some h
    rw [fNo_eq] at h
    rw [findN_length h]; simp; omega
theorem noDup_inj : ∀ {l : List Nat},noDup l = true → ∀ (i j x : Nat),l[i]? = some x → l[j]? = some x → i = j
  | [],_,i,j,x,h,_ => by simp at h
  | n :: t,h,i,j,x,hi,hj => by
    obtain ⟨h1,h2⟩ := oc_inv (show oc (allB (fun k => not (Nat.beq n k)) t) (noDup t) = true from h)
    have ne : ∀ y ∈ t,n ≠ y := fun y hy e => by have := allB_inv h1 y hy; rw [e,Nat.beq_refl] at this; cases this
    cases i with
    | zero => cases j with
      | zero => rfl
      | succ j => simp at hi hj; subst hi; exact absurd rfl (ne n (List.mem_of_getElem? hj))
    | succ i => cases j with
      | zero => simp at hi hj; subst hj; exact absurd rfl (ne n (List.mem_of_getElem? hi))
      | succ j => rw [noDup_inj h2 i j x (by simpa using hi) (by simpa using hj)]
theorem renN_low {nr : List Nat}{m nx k : Nat} (hk : k < m) (hl : nr.length = m) : nr[m - 1 - k]? = some (renN nr m nx k) := by
  unfold renN
  rw [show Nat.ble (Nat.succ k) m = true from Nat.ble_eq_true_of_le hk]
  show nr[m - 1 - k]? = some (Option.rec (motive := fun _ => Nat) 0 (fun n => n) (nmAt nr m k))
  unfold nmAt
  rw [nth_eq]
  have hlt : m - 1 - k < nr.length := by omega
  show nr[m - 1 - k]? = some (Option.rec (motive := fun _ => Nat) 0 (fun n => n) nr[m - 1 - k]?)
  simp [hlt]
theorem renN_high {nr : List Nat}{m nx k : Nat} (hk : m ≤ k) : renN nr m nx k = nx + (k - m) := by
  unfold renN
  have : Nat.ble (Nat.succ k) m = false := by
    cases hb : Nat.ble (Nat.succ k) m with
    | false => rfl
    | true => have := Nat.le_of_ble_eq_true hb; omega
  rw [this]; rfl
theorem onceB_mem : ∀ {l : Heap}{n : Nat}{o : MO},onceB l = true → (n,o) ∈ l → look l n = some o
  | [],n,o,_,hm => by cases hm
  | p :: t,n,o,h,hm => by
    simp only [onceB] at h
    cases hq : look t p.1 with
    | some x => rw [hq] at h; cases (show false = true from h)
    | none =>
      rw [hq] at h
      have h : onceB t = true := h
      rw [look_cons]
      rcases List.mem_cons.1 hm with e|hm
      · subst e; rw [if_pos rfl]
      · have e := onceB_mem h hm
        rw [if_neg (fun e2 => by subst e2; rw [hq] at e; cases e)]; exact e
def TRuleAt (ρ : Nat → Int) (P : Program) (r : TRule) : Prop := fineT r = true ∧ ∃ v H',TB ρ P r.g r.args r.m r.need v r.m2 H' ∧ (∀ φ nx,Alike ρ φ nx ρ v r.res) ∧ (∀ n o,look r.need n = some o → ∃ o',look H' n = some o' ∧ ∀ φ nx,AlikeO ρ φ nx ρ o' (laterT r n o)) ∧
  ∀ n o,look r.out n = some o → ∃ o',look H' n = some o' ∧ ∀ φ nx,AlikeO ρ φ nx ρ o' o
def TOk (ρ : Nat → Int) (P : Program) (r : TRule) : Prop := match r.reads with
  | none => TRuleAt ρ P r
  | some _ => ∀ ρ',OkD r.D ρ' → TRuleAt ρ' P r
def TRulesOk (ρ : Nat → Int) (P : Program) (rs : TRs) : Prop := ∀ p ∈ rs,∀ r ∈ p.2,TOk ρ P r
theorem sgT_some {args : List MV}{H : Heap}{nr : List Nat}{m : Nat}{l : Option (List Src)}{s : Option Sg} (h : sgT args H nr m l = some s) : (l = none ∧ s = none) ∨ (∃ x σ,l = some x ∧ s = some σ) := by
  cases l with
  | none => cases (show some none = some s from h); exact .inl ⟨rfl,rfl⟩
  | some x =>
    obtain ⟨σ,_,h⟩ := bo_some (show bo (sgL args H nr m x) (fun σ => some (some σ)) = some s from h)
    cases h
    exact .inr ⟨x,σ,rfl,rfl⟩
theorem hasO_le {p0 q0 : Nat} (hmm : p0 ≤ q0) {o : MO} (ho : hasO (ltB p0) o = true) : hasO (ltB q0) o = true := by
  have hv : ∀ x : MV,hasV (ltB p0) x = true → hasV (ltB q0) x = true := by
    intro x
    have row : ∀ {l : List MV},(∀ x ∈ l,hasV (ltB p0) x = true → hasV (ltB q0) x = true) → allB (hasV (ltB p0)) l = true → allB (hasV (ltB q0)) l = true := fun h h' => allB_intro fun a ha => h a ha (allB_inv h' a ha)
    have lt : ∀ n,ltB p0 n = true → ltB q0 n = true := fun n h => decide_eq_true (Nat.lt_of_lt_of_le (of_decide_eq_true h) hmm)
    refine @MV.rec (fun x => hasV (ltB p0) x = true → hasV (ltB q0) x = true) (fun l => ∀ x ∈ l,hasV (ltB p0) x = true → hasV (ltB q0) x = true) (fun _ _ => rfl) (fun _ _ => rfl) (fun _ _ _ => rfl) (fun _ _ _ _ => rfl) (fun n _ h => lt n h) (fun _ n _ _ _ h => lt n h) (fun cs ih h => ?_) (fun cs ih h => ?_) (fun g a b i1 i2 h => ?_) (fun n h => lt n h) (fun _ _ ih h => ih h) ?_ ?_ x
    · rw [hasV_agg] at h ⊢; exact row ih h
    · rw [hasV_tup] at h ⊢; exact row ih h
    · rw [hasV_clo] at h ⊢; obtain ⟨p,q⟩ := oc_inv h; exact oc_intro (row i1 p) (row i2 q)
    · intro x hx; cases hx
    · intro x t a b y hy
      rcases List.mem_cons.1 hy with rfl|hy
      · exact a
      · exact b y hy
  cases o with
  | cells l => exact allB_intro fun a ha => hv a (allB_inv (show allB (hasV (ltB p0)) l = true from ho) a ha)
  | map es => exact allB_intro fun a ha => by obtain ⟨p,q⟩ := oc_inv (allB_inv (show allB (fun e => oc (hasV (ltB p0) e.1) (hasV (ltB p0) e.2)) es = true from ho) a ha); exact oc_intro (hv _ p) (hv _ q)
  | dead => rfl
theorem trule_use {r : TRule} (hr : TOk ρ P r) (hD : OkD D ρ) {args : List MV}{nx : Nat}{H : Heap}{nr : List Nat} (hfd : findN args H r.src [] 0 = some nr) (hsg : sgT args H nr r.m r.reads = some s) (hh : hitT D r args nx H nr s = true) :
    TB ρ P r.g args nx H (subS s (renN nr r.m nx) r.res) (nx + (r.m2 - r.m)) ((r.out.map fun p => (renN nr r.m nx p.1,subSO s (renN nr r.m nx) p.2)).reverse ++ H) := by
  obtain ⟨h1,hh⟩ := oc_inv hh
  obtain ⟨h2,hh⟩ := oc_inv hh
  obtain ⟨h3,hh⟩ := oc_inv hh
  obtain ⟨h4,h5⟩ := oc_inv hh
  have hat : TRuleAt (sgS ρ s) P r := by
    unfold TOk at hr
    rcases sgT_some hsg with ⟨e1,e2⟩|⟨x,σ,e1,e2⟩
    · rw [e1] at hr; rw [e2]; exact hr
    · rw [e1] at hr; rw [e2] at h5 ⊢
      obtain ⟨h6,h7⟩ := oc_inv (show oc (okB D σ r.D.bs) (okF D σ r.D.fs) = true from h5)
      exact hr _ ⟨okB_ok hD _ _ h6,okF_ok hD _ h7⟩
  obtain ⟨hfine,v,H',ht,hv,hn1,hn2⟩ := hat
  obtain ⟨f0,hfine⟩ := oc_inv hfine
  obtain ⟨f1,hfine⟩ := oc_inv hfine
  obtain ⟨f2,hfine⟩ := oc_inv hfine
  obtain ⟨f3,hfine⟩ := oc_inv hfine
  obtain ⟨f4,hfine⟩ := oc_inv hfine
  obtain ⟨f5,f6⟩ := oc_inv hfine
  rw [ble_lt] at f2 f3 f4
  rw [ble_lt] at f5
  have hlen : nr.length = r.m := by
    have a := findN_length hfd
    have b := Nat.eq_of_beq_eq_true f1
    rw [len_eq] at b
    rw [a]; simpa using b
  have hmm := Nat.le_of_ble_eq_true f0
  have fneed : ∀ n o,look r.need n = some o → n < r.m ∧ hasO (ltB r.m) o = true := fun n o hn => by
    obtain ⟨a,b⟩ := oc_inv (allB_inv f4 _ (look_mem hn))
    exact ⟨Nat.le_of_ble_eq_true a,b⟩
  have mono : ∀ {o : MO},hasO (ltB r.m) o = true → hasO (ltB r.m2) o = true := fun ho => hasO_le hmm ho
  have fout : ∀ n o,look r.out n = some o → n < r.m2 ∧ (n < r.m → ∃ o',look r.need n = some o') ∧ hasO (ltB r.m2) o = true := fun n o hn => by
    obtain ⟨a,b⟩ := oc_inv (allB_inv f5 _ (look_mem hn))
    rcases ow_inv (show ow (Nat.ble r.m n) (Nat.ble (Nat.succ n) r.m2) (someB (look r.need n)) = true from a) with ⟨c,d⟩|⟨c,d⟩
    · exact ⟨Nat.le_of_ble_eq_true d,fun e => by have := Nat.le_of_ble_eq_true c; omega,b⟩
    · obtain ⟨o',d⟩ := someB_inv d
      exact ⟨Nat.lt_of_lt_of_le (fneed n o' d).1 hmm,fun _ => ⟨o',d⟩,b⟩
  have t0 : TB (sgS ρ s) P r.g r.args r.m r.need r.res r.m2 (r.out ++ r.need) := by
    have t1 : TB (sgS ρ s) P r.g r.args r.m r.need v r.m2 (selG H' ((r.out ++ r.need).map (·.1))) := ht.frame (fun n o hn => hn) fun n o hn => by
      rw [look_selG] at hn
      split at hn
      · exact .inl hn
      · cases hn
    have hin : ∀ n o,look (r.out ++ r.need) n = some o → ∃ o',look H' n = some o' ∧ ∀ φ nx,AlikeO (sgS ρ s) φ nx (sgS ρ s) o' o := fun n o hn => by
      rw [look_app] at hn
      cases hq : look r.out n with
      | some x => rw [hq] at hn; have hn : x = o := by simpa using hn
                  subst hn; exact hn2 n x hq
      | none =>
        rw [hq] at hn
        have hn : look r.need n = some o := by simpa using hn
        obtain ⟨o',a,b⟩ := hn1 n o hn
        refine ⟨o',a,fun φ nx => ?_⟩
        have := b φ nx
        unfold laterT at this
        rw [hq] at this
        exact this
    refine t1.alike rfl (fun i a a' h1 h2 φ nx => by rw [h1] at h2; cases h2; exact fun u => Iff.rfl) ⟨fun n o hn => ⟨o,hn,fun φ nx => ⟨Iff.rfl,fun w n => Iff.rfl⟩⟩,fun n o hn => ⟨o,hn,fun φ nx => ⟨Iff.rfl,fun w n => Iff.rfl⟩⟩⟩ (fun φ nx => (hv φ nx).symm) ⟨fun n o hn => ?_,fun n o hn => ?_⟩
    · obtain ⟨o',a,b⟩ := hin n o hn
      refine ⟨o', ?_,fun φ nx => (b φ nx).symm⟩
      rw [look_selG,if_pos (mem_keys.2 ⟨o,hn⟩)]; exact a
    · rw [look_selG] at hn
      split at hn
      · rename_i hmem
        obtain ⟨o1,hq⟩ := mem_keys.1 hmem
        obtain ⟨o',a,b⟩ := hin n o1 hq
        rw [hn] at a; cases a
        exact ⟨o1,hq,fun φ nx => (b φ nx).symm⟩
      · cases hn
  have hlow : ∀ n,n < r.m → renN nr r.m nx n < nx := fun n hn => Nat.le_of_ble_eq_true (allB_inv h4 _ (List.mem_of_getElem? (renN_low (nx := nx) hn hlen)))
  have hinj : ∀ n q,n < r.m → q < r.m → renN nr r.m nx n = renN nr r.m nx q → n = q := fun n q hn hq e => by
    have a := renN_low (nx := nx) hn hlen
    have b := renN_low (nx := nx) hq hlen
    rw [e] at a
    have := noDup_inj h3 _ _ _ a b
    omega
  have hneed : ∀ n o,look r.need n = some o → ∃ o',look H (renN nr r.m nx n) = some o' ∧ ∀ φ nx',AlikeO ρ φ nx' ρ o' (subSO s (renN nr r.m nx) o) := fun n o hn => by
    obtain ⟨o',a,b⟩ := ob_inv (allB_inv h2 _ (look_mem hn))
    exact ⟨o',a,fun φ nx' => eqWO_ok b⟩
  have hHlow : ∀ n o,n < r.m → look r.out n = some o → ∃ o',look H (renN nr r.m nx n) = some o' := fun n o hn ho => by
    obtain ⟨o1,a⟩ := (fout n o ho).2.1 hn
    obtain ⟨o2,b,_⟩ := hneed n o1 a
    exact ⟨o2,b⟩
  have e1 := fun (φ : Nat → Ph) (nx' : Nat) => (eqWL_ok (ρ := ρ) (φ := φ) (nx := nx') h1)
  have hfeq : ∀ n q,n < r.m2 → q < r.m2 → renN nr r.m nx n = renN nr r.m nx q → n = q := fun n q hn hq e => by
    by_cases c : n < r.m <;> by_cases d : q < r.m
    · exact hinj n q c d e
    · have := hlow n c; rw [renN_high (k := q) (by omega)] at e; omega
    · have := hlow q d; rw [renN_high (k := n) (by omega)] at e; omega
    · rw [renN_high (k := q) (by omega),renN_high (k := n) (by omega)] at e; omega
  have hout : ∀ n' o',look ((r.out.map fun p => (renN nr r.m nx p.1,subSO s (renN nr r.m nx) p.2)).reverse ++ H) n' = some o' →
      (∃ n o,look r.out n = some o ∧ n' = renN nr r.m nx n ∧ o' = subSO s (renN nr r.m nx) o) ∨ (look H n' = some o' ∧ ∀ n o,look r.out n = some o → renN nr r.m nx n ≠ n') := by
    intro n' o' hn
    rw [look_app] at hn
    cases hq : look (r.out.map fun p => (renN nr r.m nx p.1,subSO s (renN nr r.m nx) p.2)).reverse n' with
    | some x =>
      rw [hq] at hn
      have hn : x = o' := by simpa using hn
      subst hn
      have hmem := List.mem_reverse.1 (look_mem hq)
      obtain ⟨⟨n,o⟩,hp,he⟩ := List.mem_map.1 hmem
      simp only [Prod.mk.injEq] at he
      obtain ⟨e1,e2⟩ := he
      exact .inl ⟨n,o,onceB_mem f6 hp,e1.symm,e2.symm⟩
    | none =>
      rw [hq] at hn
      refine .inr ⟨by simpa using hn,fun n o ho e => ?_⟩
      obtain ⟨z,hz⟩ := mem_look (List.mem_reverse.2 (List.mem_map.2 ⟨(n,o),look_mem ho,rfl⟩ : (renN nr r.m nx n,subSO s (renN nr r.m nx) o) ∈ r.out.map fun p => (renN nr r.m nx p.1,subSO s (renN nr r.m nx) p.2)))
      rw [e,hq] at hz; cases hz
  refine t0.ren hmm hlow (fun n hn => renN_high hn) hinj (by have := (e1 (fun _ => default) 0).1; simpa using this) (fun i a a' ha ha' => ⟨allB_inv f2 a (List.mem_of_getElem? ha),fun φ nx' => (e1 φ nx').2 i a' _ ha' (by rw [List.getElem?_map,ha]; rfl)⟩) (fun n o hn => ⟨(fneed n o hn).1,(fneed n o hn).2,hneed n o hn⟩) f3 fun n' o' hn => ?_
  rcases hout n' o' hn with ⟨n,o,ho,e1,e2⟩|⟨ho,hno⟩
  · refine .inl ⟨n,o,(fout n o ho).1,by rw [look_app,ho]; rfl,(fout n o ho).2.2,e1,fun φ nx' => ?_⟩
    rw [e2]; exact ⟨Iff.rfl,fun w n => Iff.rfl⟩
  · by_cases c : ∃ n o,look r.need n = some o ∧ renN nr r.m nx n = n'
    · obtain ⟨n,o,a,b⟩ := c
      obtain ⟨o2,d1,d2⟩ := hneed n o a
      rw [b,ho] at d1; cases d1
      have hno' : look r.out n = none := by
        cases hq : look r.out n with
        | none => rfl
        | some x => exact absurd b (hno n x hq)
      exact .inl ⟨n,o,Nat.lt_of_lt_of_le (fneed n o a).1 hmm,by rw [look_app,hno']; simpa using a,mono (fneed n o a).2,b.symm,d2⟩
    · exact .inr ⟨ho,fun n o a b => c ⟨n,o,a,b⟩⟩
theorem tW1_ok {r : TRule} (hr : TOk ρ P r) (hD : OkD D ρ) {args : List MV}{nx : Nat}{H : Heap}{k : KV}{e : Bool} (h : tW1 D r args nx H k e = true) : e = true ∨ ∃ v nx' H',TB ρ P r.g args nx H v nx' H' ∧ k v nx' H' = true ∧ Suf H H' := by
  have h : (Option.rec (motive := fun _ => Bool) e (fun nr => Option.rec (motive := fun _ => Bool) e (fun s => ow (hitT D r args nx H nr s)
    (outK s (renN nr r.m nx) r.out H fun Hf => subK s (renN nr r.m nx) r.res fun v => fN (Nat.add nx (Nat.sub r.m2 r.m)) fun nx' => k v nx' Hf) e) (sgT args H nr r.m r.reads)) (findN args H r.src [] 0) : Bool) = true := h
  cases h1 : findN args H r.src [] 0 with
  | none => rw [h1] at h; exact .inl h
  | some nr =>
    rw [h1] at h
    change (Option.rec (motive := fun _ => Bool) e (fun s => ow (hitT D r args nx H nr s) (outK s (renN nr r.m nx) r.out H fun Hf => subK s (renN nr r.m nx) r.res fun v => fN (Nat.add nx (Nat.sub r.m2 r.m)) fun nx' => k v nx' Hf) e) (sgT args H nr r.m r.reads) : Bool) = true at h
    cases h2 : sgT args H nr r.m r.reads with
    | none => rw [h2] at h; exact .inl h
    | some s =>
      rw [h2] at h
      rcases ow_inv (show ow (hitT D r args nx H nr s) (outK s (renN nr r.m nx) r.out H fun Hf => subK s (renN nr r.m nx) r.res fun v => fN (Nat.add nx (Nat.sub r.m2 r.m)) fun nx' => k v nx' Hf) e = true from h) with ⟨h3,h4⟩|⟨_,h4⟩
      · rw [outK_eq,subK_eq,fN_eq] at h4
        exact .inr ⟨_,_,_,trule_use hr hD h1 h2 h3,h4,_,rfl⟩
      · exact .inl h4
theorem tsW_ok (hD : OkD D ρ) {rs : TRs} (hrs : TRulesOk ρ P rs) {e : CallK} (he : CallOk ρ P e) : CallOk ρ P (tsW D rs e) := by
  intro g args nx H k h
  have hl : ∀ r ∈ tsOf rs g,TOk ρ P r := by
    intro r hr
    unfold tsOf at hr
    cases hq : look rs g with
    | none => rw [hq] at hr; cases hr
    | some l => rw [hq] at hr; exact hrs _ (look_mem hq) r hr
  have h : (List.rec (motive := fun _ => Bool) (e g args nx H k) (fun r _ ih => ow (Nat.beq g r.g) (tW1 D r args nx H k ih) ih) (tsOf rs g) : Bool) = true := h
  generalize tsOf rs g = l at h hl
  induction l with
  | nil => exact he h
  | cons r t ih =>
    have ih := fun h => ih h fun q hq => hl q (List.mem_cons_of_mem _ hq)
    rcases ow_inv (show ow (Nat.beq g r.g) (tW1 D r args nx H k _) _ = true from h) with ⟨h1,h2⟩|⟨_,h2⟩
    · rcases tW1_ok (hl r List.mem_cons_self) hD h2 with h3|⟨v,nx',H',a,b,c⟩
      · exact ih h3
      · rw [← Nat.eq_of_beq_eq_true h1] at a
        exact ⟨v,nx',H',a,b,c⟩
    · exact ih h2
def PFactOk (ρ : Nat → Int) (P : Program) (f : PFact) : Prop := ∀ nx H args,fpsB H f.pats args = true → TB ρ P f.g args nx H f.res nx H
def PFactsOk (ρ : Nat → Int) (P : Program) (fs : List PFact) : Prop := ∀ f ∈ fs,PFactOk ρ P f
theorem pfactW_ok {f : PFact} (hf : PFactOk ρ P f) {e : CallK} (he : CallOk ρ P e) : CallOk ρ P (pfactW f e) := by
  intro g args nx H k h
  rcases ow_inv (show ow (Nat.beq g f.g) (ow (fpsB H f.pats args) (k f.res nx H) (e g args nx H k)) (e g args nx H k) = true from h) with ⟨h1,h2⟩|⟨_,h2⟩
  · rcases ow_inv h2 with ⟨h3,h4⟩|⟨_,h4⟩
    · have h5 := hf nx H args h3
      rw [← Nat.eq_of_beq_eq_true h1] at h5
      exact ⟨_,_,_,h5,h4,Suf.refl H⟩
    · exact he h4
  · exact he h2
theorem pfactsW_ok {e : CallK} (he : CallOk ρ P e) : ∀ {fs : List PFact},PFactsOk ρ P fs → CallOk ρ P (pfactsW fs e)
  | [],_ => he
  | f :: fs,h => pfactW_ok (h f List.mem_cons_self) (pfactsW_ok he fun q hq => h q (List.mem_cons_of_mem _ hq))
theorem runY_ok (hm : P.follows .mixedOrders = true) (hD : OkD D ρ) {fs : List PFact} (hfs : PFactsOk ρ P fs) {rs : TRs} (hrs : TRulesOk ρ P rs) (gs : List Nat) : ∀ (n : Nat),CallOk ρ P (runY P D fs rs gs n)
  | 0 => fun h => by cases (show false = true from h)
  | n + 1 => pfactsW_ok (tsW_ok hD hrs (gcW_ok (stepF_ok hD (drawOk hm hD) (runY_ok hm hD hfs hrs gs n)) gs)) hfs
theorem TB.few {g : Nat}{args : List MV}{m m' m2 : Nat}{need K : Heap}{r : MV} (h : TB ρ P g args m need r m' K) (h1 : m ≤ m2) (hr : hasV (ltB m2) r = true) (hK : ∀ n o,look K n = some o → n < m2 ∧ hasO (ltB m2) o = true) : TB ρ P g args m need r m2 K := by
  refine ⟨h.1,fun w φ vals hok hsz hargs => (h.2 w φ vals hok hsz hargs).mono ?_⟩
  rintro e w' ⟨φ',v,he,hok',hrv,hext,_,hφ⟩
  exact ⟨φ',v,he,⟨fun n o hl => ⟨(hK n o hl).1,(hok'.obj n o hl).2.less (fun n _ hp => ⟨rfl,of_decide_eq_true hp⟩) rfl (hK n o hl).2⟩,hok'.dis⟩,hrv.less (fun n _ hp => ⟨rfl,of_decide_eq_true hp⟩) hr,hext,h1,hφ⟩
theorem TRuleAt.of {r : TRule} (hfine : fineT r = true) {v : MV}{m' : Nat}{H' : Heap} (ht : TB ρ P r.g r.args r.m r.need v m' H') (hk : keptT r v m' H' = true) : TRuleAt ρ P r := by
  have hfin0 := hfine
  obtain ⟨f0,hfine⟩ := oc_inv hfine
  obtain ⟨f1,hfine⟩ := oc_inv hfine
  obtain ⟨f2,hfine⟩ := oc_inv hfine
  obtain ⟨f3,hfine⟩ := oc_inv hfine
  obtain ⟨f4,hfine⟩ := oc_inv hfine
  obtain ⟨f5,f6⟩ := oc_inv hfine
  rw [ble_lt] at f2 f3 f4
  rw [ble_lt] at f5
  have hmm := Nat.le_of_ble_eq_true f0
  obtain ⟨_,hk⟩ := oc_inv hk
  obtain ⟨k1,hk⟩ := oc_inv hk
  obtain ⟨k2,k3⟩ := oc_inv hk
  have hv : ∀ φ nx,Alike ρ φ nx ρ v r.res := fun φ nx => eqV_ok v _ k1
  have hin : ∀ n o,look (r.out ++ r.need) n = some o → ∃ o',look H' n = some o' ∧ ∀ φ nx,AlikeO ρ φ nx ρ o' o := fun n o hn => by
    rw [look_app] at hn
    cases hq : look r.out n with
    | some x =>
      rw [hq] at hn
      have hn : x = o := by simpa using hn
      subst hn
      obtain ⟨o',a,b⟩ := ob_inv (allB_inv k3 _ (look_mem hq))
      exact ⟨o',a,fun φ nx => eqO_ok b⟩
    | none =>
      rw [hq] at hn
      have hn : look r.need n = some o := by simpa using hn
      obtain ⟨o',a,b⟩ := ob_inv (allB_inv k2 _ (look_mem hn))
      have b : eqO o' (laterT r n o) = true := b
      unfold laterT at b
      rw [hq] at b
      exact ⟨o',a,fun φ nx => eqO_ok b⟩
  have hnames : ∀ n o,look (r.out ++ r.need) n = some o → n < r.m2 ∧ hasO (ltB r.m2) o = true := fun n o hn => by
    rw [look_app] at hn
    have fneed : ∀ n o,look r.need n = some o → n < r.m ∧ hasO (ltB r.m) o = true := fun n o hn => by
      obtain ⟨a,b⟩ := oc_inv (allB_inv f4 _ (look_mem hn))
      exact ⟨Nat.le_of_ble_eq_true a,b⟩
    cases hq : look r.out n with
    | some x =>
      rw [hq] at hn
      have hn : x = o := by simpa using hn
      subst hn
      obtain ⟨a,b⟩ := oc_inv (allB_inv f5 _ (look_mem hq))
      rcases ow_inv (show ow (Nat.ble r.m n) (Nat.ble (Nat.succ n) r.m2) (someB (look r.need n)) = true from a) with ⟨c,d⟩|⟨c,d⟩
      · exact ⟨Nat.le_of_ble_eq_true d,b⟩
      · obtain ⟨o',d⟩ := someB_inv d
        exact ⟨Nat.lt_of_lt_of_le (fneed n o' d).1 hmm,b⟩
    | none =>
      rw [hq] at hn
      have hn : look r.need n = some o := by simpa using hn
      exact ⟨Nat.lt_of_lt_of_le (fneed n o hn).1 hmm,hasO_le hmm (fneed n o hn).2⟩
  have t1 : TB ρ P r.g r.args r.m r.need v m' (selG H' ((r.out ++ r.need).map (·.1))) := ht.frame (fun n o hn => hn) fun n o hn => by
    rw [look_selG] at hn
    split at hn
    · exact .inl hn
    · cases hn
  have t2 : TB ρ P r.g r.args r.m r.need r.res m' (r.out ++ r.need) := by
    refine t1.alike rfl (fun i a a' h1 h2 φ nx => by rw [h1] at h2; cases h2; exact fun u => Iff.rfl) ⟨fun n o hn => ⟨o,hn,fun φ nx => ⟨Iff.rfl,fun w n => Iff.rfl⟩⟩,fun n o hn => ⟨o,hn,fun φ nx => ⟨Iff.rfl,fun w n => Iff.rfl⟩⟩⟩ (fun φ nx => (hv φ nx).symm) ⟨fun n o hn => ?_,fun n o hn => ?_⟩
    · obtain ⟨o',a,b⟩ := hin n o hn
      refine ⟨o', ?_,fun φ nx => (b φ nx).symm⟩
      rw [look_selG,if_pos (mem_keys.2 ⟨o,hn⟩)]; exact a
    · rw [look_selG] at hn
      split at hn
      · rename_i hmem
        obtain ⟨o1,hq⟩ := mem_keys.1 hmem
        obtain ⟨o',a,b⟩ := hin n o1 hq
        rw [hn] at a; cases a
        exact ⟨o1,hq,fun φ nx => (b φ nx).symm⟩
      · cases hn
  refine ⟨hfin0,r.res,r.out ++ r.need,t2.few hmm f3 hnames,fun φ nx u => Iff.rfl,fun n o hn => ⟨laterT r n o, ?_,fun φ nx => ⟨Iff.rfl,fun w n => Iff.rfl⟩⟩,fun n o hn => ⟨o, ?_,fun φ nx => ⟨Iff.rfl,fun w n => Iff.rfl⟩⟩⟩
  · rw [look_app,hn]
    unfold laterT
    cases look r.out n <;> rfl
  · rw [look_app,hn]; rfl
theorem TOk.gen {r : TRule}{l : List Src} (hl : r.reads = some l) (h : ∀ ρ',OkD r.D ρ' → TRuleAt ρ' P r) : TOk ρ P r := by unfold TOk; rw [hl]; exact h
theorem TOk.own {r : TRule} (hl : r.reads = none) (h : TRuleAt ρ P r) : TOk ρ P r := by unfold TOk; rw [hl]; exact h
theorem pfacts_nil : PFactsOk ρ P [] := fun f hf => by cases hf
theorem pfacts_cons {f : PFact}{fs : List PFact} (h : PFactOk ρ P f) (hs : PFactsOk ρ P fs) : PFactsOk ρ P (f :: fs) := fun q hq => by
  rcases List.mem_cons.1 hq with rfl|hq
  · exact h
  · exact hs q hq
theorem tr_nil : TRulesOk ρ P [] := fun p hp => by cases hp
theorem tr_nil1 {g : Nat}{rs : TRs} (hs : TRulesOk ρ P rs) : TRulesOk ρ P ((g,[]) :: rs) := fun p hp r hr => by
  rcases List.mem_cons.1 hp with rfl|hp
  · cases hr
  · exact hs p hp r hr
theorem tr_cons {g : Nat}{r : TRule}{l : List TRule}{rs : TRs} (h : TOk ρ P r) (hs : TRulesOk ρ P ((g,l) :: rs)) : TRulesOk ρ P ((g,r :: l) :: rs) := fun p hp q hq => by
  rcases List.mem_cons.1 hp with rfl|hp
  · rcases List.mem_cons.1 hq with rfl|hq
    · exact h
    · exact hs (g,l) List.mem_cons_self q hq
  · exact hs p (List.mem_cons_of_mem _ hp) q hq
theorem Fact.pfact {f : Fact} (h : FactOk ρ P f) : PFactOk ρ P ⟨f.g,f.args.map FP.val,f.res⟩ := by
  intro nx H args hm
  obtain ⟨f1,f2,nx',H',t⟩ := h
  unfold noneV at f1 f2
  rw [lt_none] at f1 f2
  have t2 : TB ρ P f.g f.args nx H f.res nx H := t.use (Nat.zero_le _) (fun a ha => allB_inv f1 a ha) (fun n o hn => by rw [look_nil] at hn; cases hn) f2 fun n o hn => .inr ⟨hn,look_nil n⟩
  have e2 : ∀ (l m : List MV),fpsB H (l.map FP.val) m = true → m.length = l.length ∧ ∀ (i : Nat) a a',m[i]? = some a → l[i]? = some a' → ∀ φ nx,Alike ρ φ nx ρ a a' := by
    intro l
    induction l with
    | nil => intro m h; rw [nilB_nil (show nilB m = true from h)]; exact ⟨rfl,fun i a a' ha => by simp at ha⟩
    | cons x l ih =>
      intro m h
      cases m with
      | nil => cases (show false = true from h)
      | cons y m =>
        obtain ⟨h1,h2⟩ := oc_inv (show oc (eqV x y) (fpsB H (l.map FP.val) m) = true from h)
        obtain ⟨h3,h4⟩ := ih m h2
        refine ⟨by simp [h3],fun i a a' ha ha' φ nx => ?_⟩
        cases i with
        | zero => simp at ha ha'; subst ha ha'; exact (eqV_ok _ _ h1).symm
        | succ i => exact h4 i a a' (by simpa using ha) (by simpa using ha') φ nx
  obtain ⟨e3,e4⟩ := e2 _ _ hm
  have hH : AlikeH ρ ρ H H := ⟨fun n o hn => ⟨o,hn,fun φ nx => ⟨Iff.rfl,fun w n => Iff.rfl⟩⟩,fun n o hn => ⟨o,hn,fun φ nx => ⟨Iff.rfl,fun w n => Iff.rfl⟩⟩⟩
  exact t2.alike e3 e4 hH (fun φ nx u => Iff.rfl) hH
end
structure LHint where
  reg : Nat
  slots : List Nat
  cnt : Nat
  p : Nat
  ci : Nat
  src : List Src
  start : MV
  kc : Int
  kl : List Int
noncomputable section
def firstR (c : Code) : Nat := Code.rec (motive := fun _ => Nat) 0 (fun id _ _ => id) (fun _ _ a _ => a) (fun _ _ _ a _ => a) (fun _ _ a => a) (fun _ a => a) (fun _ _ _ _ _ _ => 0) (fun _ => 0) (fun _ _ => 0) (fun _ => 0) (fun _ => 0) 0 (fun _ => 0) c
def pickE (env : Env) (l : List Nat) : Option Env := List.rec (motive := fun _ => Option Env) (some []) (fun s _ ih => bo (look env s) fun v => bo ih fun r => some ((s,v) :: r)) l
def pickH (H : Heap) (l : List Nat) : Option Heap := List.rec (motive := fun _ => Option Heap) (some []) (fun s _ ih => bo (look H s) fun v => bo ih fun r => some ((s,v) :: r)) l
def sumK (v : MV) (κ : Int → List Int → Bool) : Bool := onI v (fun k c => oc (keq k .i64) (κ c [])) (fun k c l => oc (keq k .i64) (κ c l)) false
def shV (c : Int) (l : List Int) (v : Nat) : MV := .a .i64 c (addL l (unitL v))
def lowV (v : Nat) (a : MV) : Bool := @MV.rec (fun _ => Bool) (fun _ => Bool) (fun _ => true) (fun _ => true) (fun _ _ => true) (fun _ _ l => Nat.ble (len l) v) (fun _ _ => true) (fun _ _ _ _ _ => true) (fun _ ih => ih) (fun _ ih => ih) (fun _ _ _ i1 i2 => oc i1 i2) (fun _ => true) (fun _ _ ih => ih) true (fun _ _ i1 i2 => oc i1 i2) a
def lowO (v : Nat) (o : MO) : Bool := MO.rec (motive := fun _ => Bool) (fun l => allB (lowV v) l) (fun es => allB (fun e => oc (lowV v e.1) (lowV v e.2)) es) true o
def topI : Int := 9223372036854775807
def dmX (D : Dm) (kc : Int) (kl : List Int) : Dm := ⟨D.bs ++ [(0,topI)],D.fs ++ [(kc - 1,addL kl (negL (unitL (len D.bs))))]⟩
def chkA (envw : Env) (nx : Nat) (hs Hw : Heap) : KC := fun e => Ex.rec (motive := fun _ => Env → Nat → Heap → Bool)
  (fun env' nx' H' => oc (Nat.beq nx' nx) (oc (allB (fun q => ob (look env' q.1) fun x => eqV x q.2) envw) (allB (fun q => ob (look H' q.1) fun o => ob (look Hw q.1) fun w => eqO o w) hs))) (fun _ _ _ _ => false) (fun _ _ _ => false) e
section
variable (P : Program) (D : Dm) (cx : Dm → CallK)
def fineA (h : LHint) (n : Nat) (es : Env) (hs : Heap) (il nl : List Int) : Bool :=
  oc (ge0 D h.kc h.kl) (oc (ge0 D (topI - h.kc) (negL h.kl)) (oc (allB (fun q => lowV (len D.bs) q.2) es) (oc (allB (fun q => lowO (len D.bs) q.2) hs) (oc (Nat.ble (len il) (len D.bs)) (oc (Nat.ble (len nl) (len D.bs))
    (oc (Nat.ble (len h.kl) (len D.bs)) (oc (allB (fun f => Nat.ble (len f.2) (len D.bs)) D.fs) (someB (look hs n)))))))))
def mainA (h : LHint) (body : Code) (env : Env) (nx : Nat) (H : Heap) (nr : List Nat) (n : Nat) (l : List MV) (now : MV) (yes : Env → Heap → Bool) : Bool :=
  ob (pickE env h.slots) fun es => ob (pickH H nr) fun hs => ob (look env h.cnt) fun iv => sumK iv fun ic il => sumK now fun nc nl => oc (fineA D h n es hs il nl)
    (ob (put [shV nc nl (len D.bs)] h.ci l) fun lg => ob (put [shV (nc + 1) nl (len D.bs)] h.ci l) fun lw => ob (put [mk .i64 (nc + h.kc) (addL nl h.kl)] h.ci l) fun le =>
      oc (codeF P (dmX D h.kc h.kl) (cx (dmX D h.kc h.kl)) body ((h.cnt,shV ic il (len D.bs)) :: es) nx ((n,.cells lg) :: hs) (chkA ((h.cnt,shV (ic + 1) il (len D.bs)) :: es) nx hs ((n,.cells lw) :: hs)))
        (fV (mk .i64 (ic + h.kc) (addL il h.kl)) fun iv' => yes ((h.cnt,iv') :: es) ((n,.cells le) :: H)))
def accA (h : LHint) (body : Code) (env : Env) (nx : Nat) (H : Heap) (yes : Env → Heap → Bool) (no : Bool) : Bool :=
  Option.rec (motive := fun _ => Bool) no (fun pv => Option.rec (motive := fun _ => Bool) no (fun n => Option.rec (motive := fun _ => Bool) no (fun o => MO.rec (motive := fun _ => Bool)
    (fun l => Option.rec (motive := fun _ => Bool) no (fun now => ow (eqV h.start now) (ob (findN [pv] H h.src [] 0) fun nr => mainA P D cx h body env nx H nr n l now yes) no) (nth l h.ci)) (fun _ => no) no o) (look H n)) (nameV pv)) (look env h.p)
def tryA (hs : List LHint) (body : Code) (env : Env) (nx : Nat) (H : Heap) (yes : Env → Heap → Bool) (no : Bool) : Bool :=
  List.rec (motive := fun _ => Bool) no (fun h _ ih => ow (Nat.beq (firstR body) h.reg) (accA P D cx h body env nx H yes ih) ih) hs
def mLoopAN (hs : List LHint) (body : Code) (b : CoF) (n : Nat) : CoF := Nat.rec (motive := fun _ => CoF) (fun _ _ _ _ => false) (fun _ ih env nx H k => tryA P D cx hs body env nx H (fun env' H' => b env' nx H' (seqK ih k)) (b env nx H (seqK ih k))) n
def codeA (call : CallK) (hs : List LHint) (c : Code) : CoF := Code.rec (motive := fun _ => CoF) mSkip (fun _ ops d => Bool.rec (motive := fun _ => CoF) (opsF P D call ops ops.toList) (drawF P D call ops) d) (fun _ _ a b => mSeq a b) (fun c _ _ t e => mCond c t e) (fun id _ b => mBlock id b)
  (fun body b => mLoopAN P D cx hs body b rounds) (fun _ _ _ _ _ _ => mNo) mExit (fun _ _ => mNo) (fun _ => mNo) (fun _ => mNo) mRet (fun _ => mNo) c
abbrev LHs := List (Nat × List LHint)
def lhOf (ls : LHs) (g : Nat) : List LHint := Option.rec (motive := fun _ => List LHint) [] (fun l => l) (look ls g)
def stepA (call : CallK) (ls : LHs) : CallK := fun g args nx H k => List.rec (motive := fun _ => Bool) (stepF P D call g args nx H k)
  (fun _ _ _ => ob (tfun P g) fun r => oc (Nat.ble (len args) r.1) (codeA P D cx call (lhOf ls g) r.2.1 (argE args 0) nx H (finK P r.2.2 k))) (lhOf ls g)
end
def runZ (P : Program) (D : Dm) (fs : List PFact) (rs rx : TRs) (ls : LHs) (gs : List Nat) (n : Nat) : CallK := Nat.rec (motive := fun _ => CallK) (fun _ _ _ _ _ => false) (fun _ ih => pfactsW fs (tsW D rs (gcW gs (stepA P D (fun Dx => runY P Dx [] rx [] 100) ih ls)))) n
def truleZ (P : Program) (D : Dm) (fs : List PFact) (rs rx : TRs) (ls : LHs) (gs : List Nat) (n : Nat) (r : TRule) : Bool := oc (fineT r) (runZ P D fs rs rx ls gs n r.g r.args r.m r.need (keptT r))
end
section
variable {ρ : Nat → Int}{P : Program}{D : Dm}
def atX (ρ : Nat → Int) (v : Nat) (j : Int) : Nat → Int := fun i => if i = v then j else ρ i
theorem dot_same {ρ ρ' : Nat → Int} : ∀ (l : List Int) (i : Nat),(∀ q,i ≤ q → q < i + l.length → ρ' q = ρ q) → dot ρ' i l = dot ρ i l
  | [],i,h => rfl
  | a :: l,i,h => by
    simp only [dot]
    rw [h i (Nat.le_refl _) (by simp),dot_same l (i + 1) fun q h1 h2 => h q (by omega) (by simp; omega)]
theorem dot_unit {ρ : Nat → Int} : ∀ (v i : Nat),dot ρ i (unitL v) = ρ (i + v)
  | 0,i => by show 1 * ρ i + 0 = _; simp
  | v + 1,i => by
    show 0 * ρ i + dot ρ (i + 1) (unitL v) = _
    rw [dot_unit v (i + 1),show i + 1 + v = i + (v + 1) by omega]; omega
theorem dot_at {v : Nat}{j : Int}{l : List Int} (h : Nat.ble (len l) v = true) : dot (atX ρ v j) 0 l = dot ρ 0 l := by
  have h := Nat.le_of_ble_eq_true h
  rw [len_eq] at h
  refine dot_same l 0 fun q _ h2 => ?_
  unfold atX
  rw [if_neg (by omega)]
theorem dot_sh {v : Nat}{j c : Int}{l : List Int} (h : Nat.ble (len l) v = true) : c + dot (atX ρ v j) 0 (addL l (unitL v)) = c + dot ρ 0 l + j := by
  rw [dot_add,dot_at h,dot_unit]
  have : atX ρ v j (0 + v) = j := by unfold atX; rw [if_pos (by omega)]
  rw [this]; omega
theorem low_alike {v : Nat}{ρ' : Nat → Int} (hs : ∀ l : List Int,Nat.ble (len l) v = true → dot ρ' 0 l = dot ρ 0 l) {φ : Nat → Ph}{nx : Nat} (a : MV) : lowV v a = true → Alike ρ' φ nx ρ a a := by
  have row : ∀ {l : List MV},(∀ x ∈ l,Alike ρ' φ nx ρ x x) → ∀ (i : Nat) c d,l[i]? = some c → l[i]? = some d → Alike ρ' φ nx ρ c d := fun h i c d hc hd => by rw [hc] at hd; cases hd; exact h c (List.mem_of_getElem? hc)
  refine @MV.rec (fun a => lowV v a = true → Alike ρ' φ nx ρ a a) (fun l => lowV v (.agg l) = true → ∀ x ∈ l,Alike ρ' φ nx ρ x x) ?_ ?_ ?_ ?_ ?_ ?_ ?_ ?_ ?_ ?_ ?_ ?_ ?_ a
  · intro x _ u; exact ⟨fun h => by cases h; exact .v x,fun h => by cases h; exact .v x⟩
  · intro x _ u; exact ⟨fun h => by cases h; exact .b x,fun h => by cases h; exact .b x⟩
  · intro k c _ u; exact ⟨fun h => by cases h; exact .n k c,fun h => by cases h; exact .n k c⟩
  · intro k c l h u; rw [int_rel,int_rel,hs l h]
  · intro n o _ u; exact ⟨fun h => by cases h with|ptr h => exact .ptr h,fun h => by cases h with|ptr h => exact .ptr h⟩
  · intro sz n o l c _ u; exact ⟨fun h => by cases h with|sl h1 h2 h3 h4 h5 => exact .sl h1 h2 h3 h4 h5,fun h => by cases h with|sl h1 h2 h3 h4 h5 => exact .sl h1 h2 h3 h4 h5⟩
  · intro cs ih h; exact agg_alike rfl (row (ih h))
  · intro cs ih h; exact tup_alike rfl (row (ih h))
  · intro f as0 bs i1 i2 h
    obtain ⟨h1,h2⟩ := oc_inv (show oc (lowV v (.agg as0)) (lowV v (.agg bs)) = true from h)
    exact clo_alike rfl (row (i1 h1)) rfl (row (i2 h2))
  · intro n _ u; exact ⟨fun h => by cases h with|mp h => exact .mp h,fun h => by cases h with|mp h => exact .mp h⟩
  · intro t x ih h; exact ifc_alike (ih h)
  · intro _ x hx; cases hx
  · intro x t i1 i2 h y hy
    obtain ⟨h1,h2⟩ := oc_inv (show oc (lowV v x) (lowV v (.agg t)) = true from h)
    rcases List.mem_cons.1 hy with rfl|hy
    · exact i1 h1
    · exact i2 h2 y hy
theorem lowO_alike {v : Nat}{ρ' : Nat → Int} (hs : ∀ l : List Int,Nat.ble (len l) v = true → dot ρ' 0 l = dot ρ 0 l) {φ : Nat → Ph}{nx : Nat}{o : MO} (h : lowO v o = true) : AlikeO ρ' φ nx ρ o o := by
  cases o with
  | cells l => exact cells_alike rfl fun i c d hc hd => by rw [hc] at hd; cases hd; exact low_alike hs c (allB_inv (show allB (lowV v) l = true from h) c (List.mem_of_getElem? hc))
  | map es =>
    refine map_alike rfl fun i c d hc hd => ?_
    rw [hc] at hd; cases hd
    obtain ⟨a,b⟩ := oc_inv (allB_inv (show allB (fun e => oc (lowV v e.1) (lowV v e.2)) es = true from h) c (List.mem_of_getElem? hc))
    exact ⟨low_alike hs _ a,low_alike hs _ b⟩
  | dead => exact ⟨Iff.rfl,fun w n => Iff.rfl⟩
theorem at_at {v : Nat}{j j' : Int} (l : List Int) (h : Nat.ble (len l) v = true) : dot (atX ρ v j) 0 l = dot (atX ρ v j') 0 l := by rw [dot_at h,dot_at h]
theorem St.alike {ρ' : Nat → Int}{c : Ctx}{nx : Nat}{env env' : Env}{H H' : Heap}{φ : Nat → Ph}{tmps : Array Value}{w : World} (h : St ρ c nx env H φ tmps w)
    (he : ∀ k x',look env' k = some x' → ∃ x,look env k = some x ∧ ∀ φ nx,Alike ρ' φ nx ρ x' x) (hH : AlikeH ρ' ρ H' H) : St ρ' c nx env' H' φ tmps w := by
  refine ⟨hH.ok.2 h.ok,fun k x' hk => ?_,by rw [hH.own φ]; exact h.ext,h.keep,h.size⟩
  obtain ⟨x,h1,h2⟩ := he k x' hk
  obtain ⟨u,u1,u2⟩ := h.env k x h1
  exact ⟨u,u1,(h2 φ nx u).2 u2⟩
theorem St.join {c : Ctx}{N : Nat}{env eS : Env}{H HS HS' Hf : Heap}{φ φ' : Nat → Ph}{tmps tmps' : Array Value}{w w' : World} (hs : St ρ c N env H φ tmps w) (hp : ∀ n o,look HS n = some o → look H n = some o)
    (h : St ρ (c.part w φ HS N) N eS HS' φ' tmps' w') (hf : ∀ n o,look Hf n = some o → look HS' n = some o ∨ (look H n = some o ∧ look HS n = none)) : St ρ c N eS Hf φ' tmps' w' := by
  have hkeep : ∀ n,n < N → φ' n = φ n := h.keep.2
  have hext : Ext w w' (Own φ HS) (Own φ' HS') := h.ext
  have same : ∀ n o,look H n = some o → look HS n = none → ObjOk ρ φ' N w' n o := by
    intro n o h1 h2
    obtain ⟨a,b⟩ := hs.ok.obj n o h1
    refine b.step hkeep (Nat.le_refl _) a fun hd => hext.blk _ (b.lt hd) ?_
    rintro ⟨q,o2,q1,q2,q3⟩
    refine hs.ok.dis q n o2 o (hp q o2 q1) h1 (fun e => ?_) q2 hd q3
    subst e; rw [h2] at q1; cases q1
  have mixed : ∀ n q o o',look HS' n = some o → look H q = some o' → look HS q = none → o ≠ .dead → o' ≠ .dead → (φ' n).blk ≠ (φ' q).blk := by
    intro n q o o' h1 h3 h4 d1 d2 e
    have hq := hs.ok.obj q o' h3
    rw [hkeep q hq.1] at e
    have hlt := hq.2.lt d2
    obtain ⟨x,ox,x1,x2,x3⟩ := hext.own _ hlt ⟨n,o,h1,d1,e⟩
    refine hs.ok.dis x q ox o' (hp x ox x1) h3 (fun e => ?_) x2 d2 x3
    subst e; rw [h4] at x1; cases x1
  have hE : Ext w w' (Own φ H) (Own φ' Hf) := by
    refine ⟨hext.os,hext.tape,hext.output,hext.size,fun b hb hO => hext.blk b hb ?_, ?_⟩
    · rintro ⟨q,o,q1,q2,q3⟩; exact hO ⟨q,o,hp q o q1,q2,q3⟩
    · rintro b hb ⟨n,o,n1,n2,n3⟩
      rcases hf n o n1 with a1|⟨a1,b1⟩
      · obtain ⟨x,ox,x1,x2,x3⟩ := hext.own b hb ⟨n,o,a1,n2,n3⟩
        exact ⟨x,ox,hp x ox x1,x2,x3⟩
      · exact ⟨n,o,a1,n2,by rw [← hkeep n (hs.ok.obj n o a1).1]; exact n3⟩
  refine ⟨⟨fun n o hl => ?_,fun n q o o' h1 h2 hne d1 d2 => ?_⟩,h.env,hs.ext.trans hE,⟨hs.keep.1,fun n hn => by rw [hkeep n (Nat.lt_of_lt_of_le hn hs.keep.1)]; exact hs.keep.2 n hn⟩,h.size⟩
  · rcases hf n o hl with a|⟨a,b⟩
    · exact h.ok.obj n o a
    · exact ⟨(hs.ok.obj n o a).1,same n o a b⟩
  · rcases hf n o h1 with a1|⟨a1,b1⟩ <;> rcases hf q o' h2 with a2|⟨a2,b2⟩
    · exact h.ok.dis n q o o' a1 a2 hne d1 d2
    · exact mixed n q o o' a1 a2 b2 d1 d2
    · exact fun e => mixed q n o' o a2 a1 b1 d2 d1 e.symm
    · rw [hkeep n (hs.ok.obj n o a1).1,hkeep q (hs.ok.obj q o' a2).1]; exact hs.ok.dis n q o o' a1 a2 hne d1 d2
theorem pickE_ok {env : Env} : ∀ {l : List Nat}{es : Env},pickE env l = some es → ∀ k x,look es k = some x → look env k = some x
  | [],es,h,k,x,hk => by cases (show some [] = some es from h); cases hk
  | s :: l,es,h,k,x,hk => by
    obtain ⟨v,h1,h⟩ := bo_some (show bo (look env s) _ = some es from h)
    obtain ⟨r,h2,h⟩ := bo_some h
    cases h
    rw [look_cons] at hk
    by_cases e : s = k
    · subst e; rw [if_pos rfl] at hk; cases hk; exact h1
    · rw [if_neg e] at hk; exact pickE_ok h2 k x hk
theorem pickH_ok {H : Heap} : ∀ {l : List Nat}{hs : Heap},pickH H l = some hs → ∀ k x,look hs k = some x → look H k = some x
  | [],es,h,k,x,hk => by cases (show some [] = some es from h); cases hk
  | s :: l,es,h,k,x,hk => by
    obtain ⟨v,h1,h⟩ := bo_some (show bo (look H s) _ = some es from h)
    obtain ⟨r,h2,h⟩ := bo_some h
    cases h
    rw [look_cons] at hk
    by_cases e : s = k
    · subst e; rw [if_pos rfl] at hk; cases hk; exact h1
    · rw [if_neg e] at hk; exact pickH_ok h2 k x hk
theorem sumK_inv {v : MV}{κ : Int → List Int → Bool} (h : sumK v κ = true) : ∃ c l,κ c l = true ∧ ∀ (ρ : Nat → Int) φ nx u,Rel ρ φ nx v u ↔ u = .int .i64 (c + dot ρ 0 l) := by
  rcases onI_inv (show onI v _ _ _ = true from h) with ⟨k,c,rfl,h⟩|⟨k,c,l,rfl,h⟩|⟨_,_,h⟩
  · obtain ⟨h1,h2⟩ := oc_inv h
    refine ⟨c,[],h2,fun ρ φ nx u => ?_⟩
    rw [num_rel,keq_inv h1]; simp [dot]
  · obtain ⟨h1,h2⟩ := oc_inv h
    refine ⟨c,l,h2,fun ρ φ nx u => ?_⟩
    rw [int_rel,keq_inv h1]
  · cases h
def JumpOk (ρ : Nat → Int) (P : Program) (c : Ctx) (body : Code) (nx : Nat) (env : Env) (H : Heap) (env' : Env) (H' : Heap) : Prop :=
  ∀ φ tmps w,St ρ c nx env H φ tmps w → ∀ (b : Frame) (k : List Item) (cs : List Frame),∃ φ' tmps' w',St ρ c nx env' H' φ' tmps' w' ∧ Steps P (lone (b.at (act tmps) (.code body :: .inLoop body :: k)) cs w) (lone (b.at (act tmps') (.code body :: .inLoop body :: k)) cs w')
theorem put1_get {l r : List MV}{x : MV}{i : Nat} (h : put [x] i l = some r) (j : Nat) : r[j]? = if j = i then some x else l[j]? := by
  rw [put_get h]
  have hlen := (put_some h).2
  simp only [List.length_cons,List.length_nil,Nat.zero_add] at hlen ⊢
  by_cases e : j = i
  · subst e; simp
  · rw [if_neg e]
    by_cases e1 : j < i
    · rw [if_pos e1]
    · rw [if_neg e1,if_neg (by omega)]
theorem put_alike {ρ1 ρ2 : Nat → Int}{φ : Nat → Ph}{nx : Nat}{l r1 r2 : List MV}{x1 x2 : MV}{i : Nat} (h1 : put [x1] i l = some r1) (h2 : put [x2] i l = some r2) (hl : ∀ x ∈ l,Alike ρ1 φ nx ρ2 x x) (hx : Alike ρ1 φ nx ρ2 x1 x2) :
    AlikeO ρ1 φ nx ρ2 (.cells r1) (.cells r2) := by
  refine cells_alike (by rw [put_length h1,put_length h2]) fun j c d hc hd => ?_
  rw [put1_get h1] at hc
  rw [put1_get h2] at hd
  by_cases e : j = i
  · rw [if_pos e] at hc hd; cases hc; cases hd; exact hx
  · rw [if_neg e] at hc hd; rw [hc] at hd; cases hd; exact hl c (List.mem_of_getElem? hc)
end
section
variable {ρ : Nat → Int}{P : Program}{D : Dm}{cx : Dm → CallK}
theorem put_self {ρ1 ρ2 : Nat → Int}{φ : Nat → Ph}{nx : Nat}{l r1 : List MV}{x1 x2 : MV}{i : Nat} (h1 : put [x1] i l = some r1) (h2 : l[i]? = some x2) (hl : ∀ x ∈ l,Alike ρ1 φ nx ρ2 x x) (hx : Alike ρ1 φ nx ρ2 x1 x2) :
    AlikeO ρ1 φ nx ρ2 (.cells r1) (.cells l) := by
  refine cells_alike (put_length h1) fun j c d hc hd => ?_
  rw [put1_get h1] at hc
  by_cases e : j = i
  · subst e; rw [if_pos rfl] at hc; cases hc; rw [h2] at hd; cases hd; exact hx
  · rw [if_neg e] at hc; rw [hc] at hd; cases hd; exact hl c (List.mem_of_getElem? hc)
theorem dmX_ok (hD : OkD D ρ) {kc : Int}{kl : List Int} (h7 : Nat.ble (len kl) (len D.bs) = true) (h8 : allB (fun f => Nat.ble (len f.2) (len D.bs)) D.fs = true) (h2 : kc + dot ρ 0 kl ≤ topI) {j : Int} (j0 : 0 ≤ j) (j1 : j < kc + dot ρ 0 kl) :
    OkD (dmX D kc kl) (atX ρ (len D.bs) j) := by
  refine ⟨fun i b hb => ?_,fun f hf => ?_⟩
  · have hb : (D.bs ++ [(0,topI)])[i]? = some b := hb
    by_cases hi : i < D.bs.length
    · rw [List.getElem?_append_left hi] at hb
      have e : atX ρ (len D.bs) j i = ρ i := by unfold atX; rw [if_neg (by rw [len_eq]; omega)]
      rw [e]; exact hD.1 i b hb
    · rw [List.getElem?_append_right (by omega)] at hb
      have hi2 : i = D.bs.length := by
        have := (List.getElem?_eq_some_iff.1 hb).1
        simp at this; omega
      subst hi2
      simp at hb; subst hb
      have e : atX ρ (len D.bs) j D.bs.length = j := by unfold atX; rw [if_pos (by rw [len_eq])]
      rw [e]; exact ⟨j0,by show j ≤ topI; omega⟩
  · have hf : f ∈ D.fs ++ [(kc - 1,addL kl (negL (unitL (len D.bs))))] := hf
    rcases List.mem_append.1 hf with hf|hf
    · have := hD.2 f hf
      rw [dot_at (allB_inv h8 f hf)]; exact this
    · simp at hf; subst hf
      show 0 ≤ kc - 1 + dot (atX ρ (len D.bs) j) 0 (addL kl (negL (unitL (len D.bs))))
      rw [dot_add,dot_neg,dot_at h7,dot_unit]
      have : atX ρ (len D.bs) j (0 + len D.bs) = j := by unfold atX; rw [if_pos (by omega)]
      rw [this]; omega
theorem mainA_ok (hD : OkD D ρ) (hcx : ∀ ρ' Dx,OkD Dx ρ' → CallOk ρ' P (cx Dx)) (hdr : ∀ ρ' Dx,OkD Dx ρ' → DrawOk ρ' P Dx) {h : LHint}{body : Code}{env : Env}{nx : Nat}{H : Heap}{nr : List Nat}{n : Nat}{l : List MV}{now : MV}{yes : Env → Heap → Bool}
    (hn : look H n = some (.cells l)) (hnow : l[h.ci]? = some now) (hm : mainA P D cx h body env nx H nr n l now yes = true) :
    ∃ env' H',yes env' H' = true ∧ Suf H H' ∧ ∀ c,roomC c.nt body = true → JumpOk ρ P c body nx env H env' H' := by
  obtain ⟨es,e1,hm⟩ := ob_inv hm
  obtain ⟨hs,e2,hm⟩ := ob_inv hm
  obtain ⟨iv,e3,hm⟩ := ob_inv hm
  obtain ⟨ic,il,hm,hiv⟩ := sumK_inv hm
  obtain ⟨nc,nl,hm,hnv⟩ := sumK_inv hm
  obtain ⟨hfin,hm⟩ := oc_inv hm
  obtain ⟨lg,g1,hm⟩ := ob_inv hm
  obtain ⟨lw,g2,hm⟩ := ob_inv hm
  obtain ⟨le,g3,hm⟩ := ob_inv hm
  obtain ⟨hrun,hyes⟩ := oc_inv hm
  rw [fV_eq] at hyes
  obtain ⟨f1,hfin⟩ := oc_inv hfin
  obtain ⟨f2,hfin⟩ := oc_inv hfin
  obtain ⟨f3,hfin⟩ := oc_inv hfin
  obtain ⟨f4,hfin⟩ := oc_inv hfin
  obtain ⟨f5,hfin⟩ := oc_inv hfin
  obtain ⟨f6,hfin⟩ := oc_inv hfin
  obtain ⟨f7,hfin⟩ := oc_inv hfin
  obtain ⟨f8,f9⟩ := oc_inv hfin
  obtain ⟨o9,f9⟩ := someB_inv f9
  have e9 := pickH_ok e2 n o9 f9
  rw [hn] at e9; cases e9
  have hK0 := ge0_ok hD f1
  have hK1 : h.kc + dot ρ 0 h.kl ≤ topI := by
    have := ge0_ok hD f2
    rw [dot_neg] at this; omega
  have lowl : ∀ {ρ' ρ'' : Nat → Int}{φ : Nat → Ph}{nx : Nat},(∀ l : List Int,Nat.ble (len l) (len D.bs) = true → dot ρ' 0 l = dot ρ'' 0 l) → ∀ x ∈ l,Alike ρ' φ nx ρ'' x x := fun hh x hx =>
    low_alike hh x (allB_inv (show allB (lowV (len D.bs)) l = true from allB_inv f4 _ (look_mem f9)) x hx)
  have lows : ∀ {ρ' ρ'' : Nat → Int}{φ : Nat → Ph}{nx : Nat}{m : Nat}{o : MO},(∀ l : List Int,Nat.ble (len l) (len D.bs) = true → dot ρ' 0 l = dot ρ'' 0 l) → look hs m = some o → AlikeO ρ' φ nx ρ'' o o := fun hh hm => lowO_alike hh (allB_inv f4 _ (look_mem hm))
  have lowe : ∀ {ρ' ρ'' : Nat → Int}{φ : Nat → Ph}{nx : Nat}{k : Nat}{x : MV},(∀ l : List Int,Nat.ble (len l) (len D.bs) = true → dot ρ' 0 l = dot ρ'' 0 l) → look es k = some x → Alike ρ' φ nx ρ'' x x := fun hh hm => low_alike hh _ (allB_inv f3 _ (look_mem hm))
  have atat : ∀ (j j' : Int) (l : List Int),Nat.ble (len l) (len D.bs) = true → dot (atX ρ (len D.bs) j) 0 l = dot (atX ρ (len D.bs) j') 0 l := fun j j' l hl => at_at l hl
  have atl : ∀ (j : Int) (l : List Int),Nat.ble (len l) (len D.bs) = true → dot (atX ρ (len D.bs) j) 0 l = dot ρ 0 l := fun j l hl => dot_at hl
  have round : ∀ (j : Int),0 ≤ j → j < h.kc + dot ρ 0 h.kl → ∀ c',roomC c'.nt body = true → ∀ φ tmps w,St (atX ρ (len D.bs) j) c' nx ((h.cnt,shV ic il (len D.bs)) :: es) ((n,.cells lg) :: hs) φ tmps w → ∀ (b : Frame) (k : List Item) (cs : List Frame),
      ∃ φ' tmps' w',St (atX ρ (len D.bs) (j + 1)) c' nx ((h.cnt,shV ic il (len D.bs)) :: es) ((n,.cells lg) :: hs) φ' tmps' w' ∧ Steps P (lone (b.at (act tmps) (.code body :: .inLoop body :: k)) cs w) (lone (b.at (act tmps') (.code body :: .inLoop body :: k)) cs w') := by
    intro j j0 j1 c' hr φ tmps w hS b k cs
    have hDx := dmX_ok hD f7 f8 hK1 j0 j1
    obtain ⟨x,env',nx',H',k1,_,k3⟩ := codeF_ok hDx (hdr _ _ hDx) (hcx _ _ hDx) body _ _ _ _ hrun
    cases x with
    | exit i => cases (show false = true from k1)
    | ret => cases (show false = true from k1)
    | normal =>
      obtain ⟨q1,q⟩ := oc_inv k1
      obtain ⟨q2,q3⟩ := oc_inv q
      have q1 := Nat.eq_of_beq_eq_true q1
      subst q1
      obtain ⟨e,a1,w1,⟨rfl,hd,φ',hs'⟩,harr⟩ := k3 c' hr φ tmps w hS b (.inLoop body :: k) cs
      have hsub : St (atX ρ (len D.bs) j) c' nx' env' (selG H' (hs.map (·.1))) φ' a1.tmps w1 := hs'.sub (fun m o hm _ => by
        rw [look_selG] at hm
        split at hm
        · exact hm
        · cases hm) fun m hm => by
        rw [look_selG] at hm
        split at hm
        · exact (hs'.ok.obj m _ hm).1
        · cases hm
      have hobj : ∀ m o0,look hs m = some o0 → ∃ o o',look ((n,.cells lg) :: hs) m = some o ∧ look H' m = some o' ∧ ∀ φ nx,AlikeO (atX ρ (len D.bs) (j + 1)) φ nx (atX ρ (len D.bs) j) o o' := by
        intro m o0 hm
        obtain ⟨o',a1,b1⟩ := ob_inv (allB_inv q3 _ (look_mem hm))
        obtain ⟨ww,b2,b3⟩ := ob_inv b1
        rw [look_cons] at b2
        by_cases e : n = m
        · rw [if_pos e] at b2; cases b2
          refine ⟨_,o',by rw [look_cons,if_pos e],a1,fun φ nx => (put_alike g1 g2 (lowl (atat _ _)) fun u => ?_).trans (eqO_ok b3).symm⟩
          rw [shV,shV,int_rel,int_rel,dot_sh f6,dot_sh f6,show nc + dot ρ 0 nl + (j + 1) = nc + 1 + dot ρ 0 nl + j by omega]
        · rw [if_neg e,hm] at b2; cases b2
          exact ⟨o0,o',by rw [look_cons,if_neg e]; exact hm,a1,fun φ nx => (lows (atat _ _) hm).trans (eqO_ok b3).symm⟩
      have hkey : ∀ m o,look ((n,.cells lg) :: hs) m = some o → ∃ o0,look hs m = some o0 := by
        intro m o hm
        rw [look_cons] at hm
        by_cases e : n = m
        · subst e; exact ⟨_,f9⟩
        · rw [if_neg e] at hm; exact ⟨o,hm⟩
      refine ⟨φ',a1.tmps,w1,hsub.alike (fun kk x' hk => ?_) ⟨fun m o hm => ?_,fun m o' hm => ?_⟩, ?_⟩
      · rw [look_cons] at hk
        by_cases e : h.cnt = kk
        · rw [if_pos e] at hk; cases hk
          obtain ⟨x,a,b2⟩ := ob_inv (allB_inv q2 (h.cnt,shV (ic + 1) il (len D.bs)) List.mem_cons_self)
          refine ⟨x,by rw [← e]; exact a,fun φ nx => Alike.trans (fun u => ?_) (eqV_ok _ _ b2).symm⟩
          rw [shV,shV,int_rel,int_rel,dot_sh f5,dot_sh f5,show ic + dot ρ 0 il + (j + 1) = ic + 1 + dot ρ 0 il + j by omega]
        · rw [if_neg e] at hk
          obtain ⟨x,a,b2⟩ := ob_inv (allB_inv q2 (kk,x') (List.mem_cons_of_mem _ (look_mem hk)))
          exact ⟨x,a,fun φ nx => Alike.trans (lowe (atat _ _) hk) (eqV_ok _ _ b2).symm⟩
      · obtain ⟨o0,hm0⟩ := hkey m o hm
        obtain ⟨o1,o',a,b2,d⟩ := hobj m o0 hm0
        rw [hm] at a; cases a
        exact ⟨o',by rw [look_selG,if_pos (mem_keys.2 ⟨o0,hm0⟩)]; exact b2,d⟩
      · rw [look_selG] at hm
        split at hm
        · rename_i hmem
          obtain ⟨o0,hm0⟩ := mem_keys.1 hmem
          obtain ⟨o1,o2,a,b2,d⟩ := hobj m o0 hm0
          rw [hm] at b2; cases b2
          exact ⟨o1,a,d⟩
        · cases hm
      · rw [← actE hd]
        exact Steps.trans harr (.one step_inLoop)
  have rounds : ∀ (m : Nat),(m : Int) ≤ h.kc + dot ρ 0 h.kl → ∀ c',roomC c'.nt body = true → ∀ φ tmps w,St (atX ρ (len D.bs) 0) c' nx ((h.cnt,shV ic il (len D.bs)) :: es) ((n,.cells lg) :: hs) φ tmps w → ∀ (b : Frame) (k : List Item) (cs : List Frame),
      ∃ φ' tmps' w',St (atX ρ (len D.bs) m) c' nx ((h.cnt,shV ic il (len D.bs)) :: es) ((n,.cells lg) :: hs) φ' tmps' w' ∧ Steps P (lone (b.at (act tmps) (.code body :: .inLoop body :: k)) cs w) (lone (b.at (act tmps') (.code body :: .inLoop body :: k)) cs w') := by
    intro m
    induction m with
    | zero => intro _ c' hr φ tmps w hS b k cs; exact ⟨φ,tmps,w,hS,.refl P _⟩
    | succ m ih =>
      intro hm c' hr φ tmps w hS b k cs
      obtain ⟨φ1,t1,w1,s1,p1⟩ := ih (by omega) c' hr φ tmps w hS b k cs
      obtain ⟨φ2,t2,w2,s2,p2⟩ := round m (by omega) (by omega) c' hr φ1 t1 w1 s1 b k cs
      exact ⟨φ2,t2,w2,by rw [show ((m + 1 : Nat) : Int) = (m : Int) + 1 by omega]; exact s2,p1.trans p2⟩
  refine ⟨_,_,hyes,⟨[_],rfl⟩,fun c hr φ tmps w hst b k cs => ?_⟩
  have hes : ∀ kk x,look ((h.cnt,iv) :: es) kk = some x → look env kk = some x := fun kk x hk => by
    rw [look_cons] at hk
    by_cases e : h.cnt = kk
    · rw [if_pos e] at hk; cases hk; rw [← e]; exact e3
    · rw [if_neg e] at hk; exact pickE_ok e1 kk x hk
  have p0 : St ρ (c.part w φ hs nx) nx ((h.cnt,iv) :: es) hs φ tmps w := hst.part (pickH_ok e2) (fun kk x hk => by
    obtain ⟨u,_,u2⟩ := hst.env kk x (hes kk x hk)
    exact ⟨hes kk x hk,u2.has⟩) fun m o hm => by
    obtain ⟨a,b⟩ := hst.ok.obj m o (pickH_ok e2 m o hm)
    exact ⟨a,b.has⟩
  have s0 : St (atX ρ (len D.bs) 0) (c.part w φ hs nx) nx ((h.cnt,shV ic il (len D.bs)) :: es) ((n,.cells lg) :: hs) φ tmps w := by
    refine p0.alike (fun kk x' hk => ?_) ⟨fun m o hm => ?_,fun m o hm => ?_⟩
    · rw [look_cons] at hk
      by_cases e : h.cnt = kk
      · rw [if_pos e] at hk; cases hk
        refine ⟨iv,by rw [look_cons,if_pos e],fun φ nx u => ?_⟩
        rw [hiv,shV,int_rel,dot_sh f5,Int.add_zero]
      · rw [if_neg e] at hk
        exact ⟨x',by rw [look_cons,if_neg e]; exact hk,fun φ nx => lowe (atl _) hk⟩
    · rw [look_cons] at hm
      by_cases e : n = m
      · rw [if_pos e] at hm; cases hm
        refine ⟨_,by rw [← e]; exact f9,fun φ nx => put_self g1 hnow (lowl (atl _)) fun u => ?_⟩
        rw [hnv,shV,int_rel,dot_sh f6,Int.add_zero]
      · rw [if_neg e] at hm; exact ⟨o,hm,fun φ nx => lows (atl _) hm⟩
    · by_cases e : n = m
      · subst e
        rw [f9] at hm; cases hm
        refine ⟨_,by rw [look_cons,if_pos rfl],fun φ nx => put_self g1 hnow (lowl (atl _)) fun u => ?_⟩
        rw [hnv,shV,int_rel,dot_sh f6,Int.add_zero]
      · exact ⟨o,by rw [look_cons,if_neg e]; exact hm,fun φ nx => lows (atl _) hm⟩
  obtain ⟨φ',tmps',w',s1,p1⟩ := rounds (h.kc + dot ρ 0 h.kl).toNat (by omega) (c.part w φ hs nx) hr φ tmps w s0 b k cs
  rw [show (((h.kc + dot ρ 0 h.kl).toNat : Nat) : Int) = h.kc + dot ρ 0 h.kl by omega] at s1
  have la : ∀ (l : List Int),Nat.ble (len l) (len D.bs) = true → dot ρ 0 l = dot (atX ρ (len D.bs) (h.kc + dot ρ 0 h.kl)) 0 l := fun l hl => (dot_at hl).symm
  have s2 : St ρ (c.part w φ hs nx) nx ((h.cnt,mk .i64 (ic + h.kc) (addL il h.kl)) :: es) ((n,.cells le) :: hs) φ' tmps' w' := by
    refine s1.alike (fun kk x' hk => ?_) ⟨fun m o hm => ?_,fun m o hm => ?_⟩
    · rw [look_cons] at hk
      by_cases e : h.cnt = kk
      · rw [if_pos e] at hk; cases hk
        refine ⟨shV ic il (len D.bs),by rw [look_cons,if_pos e],fun φ nx u => ?_⟩
        rw [mk_iff,shV,int_rel,dot_sh f5,dot_add,show ic + h.kc + (dot ρ 0 il + dot ρ 0 h.kl) = ic + dot ρ 0 il + (h.kc + dot ρ 0 h.kl) by omega]
      · rw [if_neg e] at hk
        exact ⟨x',by rw [look_cons,if_neg e]; exact hk,fun φ nx => lowe la hk⟩
    · rw [look_cons] at hm
      by_cases e : n = m
      · rw [if_pos e] at hm; cases hm
        refine ⟨_,by rw [look_cons,if_pos e],fun φ nx => put_alike g3 g1 (lowl la) fun u => ?_⟩
        rw [mk_iff,shV,int_rel,dot_sh f6,dot_add,show nc + h.kc + (dot ρ 0 nl + dot ρ 0 h.kl) = nc + dot ρ 0 nl + (h.kc + dot ρ 0 h.kl) by omega]
      · rw [if_neg e] at hm; exact ⟨o,by rw [look_cons,if_neg e]; exact hm,fun φ nx => lows la hm⟩
    · rw [look_cons] at hm
      by_cases e : n = m
      · rw [if_pos e] at hm; cases hm
        refine ⟨_,by rw [look_cons,if_pos e],fun φ nx => put_alike g3 g1 (lowl la) fun u => ?_⟩
        rw [mk_iff,shV,int_rel,dot_sh f6,dot_add,show nc + h.kc + (dot ρ 0 nl + dot ρ 0 h.kl) = nc + dot ρ 0 nl + (h.kc + dot ρ 0 h.kl) by omega]
      · rw [if_neg e] at hm; exact ⟨o,by rw [look_cons,if_neg e]; exact hm,fun φ nx => lows la hm⟩
  refine ⟨φ',tmps',w',hst.join (pickH_ok e2) s2 fun m o hm => ?_,p1⟩
  rw [look_cons] at hm
  by_cases e : n = m
  · rw [if_pos e] at hm; exact .inl (by rw [look_cons,if_pos e]; exact hm)
  · rw [if_neg e] at hm
    cases hq : look hs m with
    | none => exact .inr ⟨hm,rfl⟩
    | some o1 =>
      have := pickH_ok e2 m o1 hq
      rw [hm] at this; cases this
      exact .inl (by rw [look_cons,if_neg e]; exact hq)
theorem accA_ok (hD : OkD D ρ) (hcx : ∀ ρ' Dx,OkD Dx ρ' → CallOk ρ' P (cx Dx)) (hdx : ∀ ρ' Dx,OkD Dx ρ' → DrawOk ρ' P Dx) {h : LHint}{body : Code}{env : Env}{nx : Nat}{H : Heap}{yes : Env → Heap → Bool}{no : Bool} (hm : accA P D cx h body env nx H yes no = true) :
    no = true ∨ ∃ env' H',yes env' H' = true ∧ Suf H H' ∧ ∀ c,roomC c.nt body = true → JumpOk ρ P c body nx env H env' H' := by
  unfold accA at hm
  cases h1 : look env h.p with
  | none => rw [h1] at hm; exact .inl hm
  | some pv =>
    rw [h1] at hm
    dsimp only at hm
    cases h2 : nameV pv with
    | none => rw [h2] at hm; exact .inl hm
    | some n =>
      rw [h2] at hm
      dsimp only at hm
      cases h3 : look H n with
      | none => rw [h3] at hm; exact .inl hm
      | some o =>
        rw [h3] at hm
        cases o with
        | map es => exact .inl hm
        | dead => exact .inl hm
        | cells l =>
          dsimp only at hm
          cases h4 : nth l h.ci with
          | none => rw [h4] at hm; exact .inl hm
          | some now =>
            rw [h4] at hm
            rcases ow_inv (show ow (eqV h.start now) (ob (findN [pv] H h.src [] 0) fun nr => mainA P D cx h body env nx H nr n l now yes) no = true from hm) with ⟨_,hm⟩|⟨_,hm⟩
            · obtain ⟨nr,_,hm⟩ := ob_inv hm
              rw [nth_eq] at h4
              exact .inr (mainA_ok hD hcx hdx h3 h4 hm)
            · exact .inl hm
theorem tryA_ok (hD : OkD D ρ) (hcx : ∀ ρ' Dx,OkD Dx ρ' → CallOk ρ' P (cx Dx)) (hdx : ∀ ρ' Dx,OkD Dx ρ' → DrawOk ρ' P Dx) {body : Code}{env : Env}{nx : Nat}{H : Heap}{yes : Env → Heap → Bool}{no : Bool} : ∀ {hs : List LHint},tryA P D cx hs body env nx H yes no = true →
    no = true ∨ ∃ env' H',yes env' H' = true ∧ Suf H H' ∧ ∀ c,roomC c.nt body = true → JumpOk ρ P c body nx env H env' H'
  | [],hm => .inl hm
  | h :: hs,hm => by
    rcases ow_inv (show ow (Nat.beq (firstR body) h.reg) (accA P D cx h body env nx H yes (tryA P D cx hs body env nx H yes no)) (tryA P D cx hs body env nx H yes no) = true from hm) with ⟨_,hm⟩|⟨_,hm⟩
    · rcases accA_ok hD hcx hdx hm with hm|hm
      · exact tryA_ok hD hcx hdx hm
      · exact .inr hm
    · exact tryA_ok hD hcx hdx hm
theorem loopA_ok (hD : OkD D ρ) (hcx : ∀ ρ' Dx,OkD Dx ρ' → CallOk ρ' P (cx Dx)) (hdx : ∀ ρ' Dx,OkD Dx ρ' → DrawOk ρ' P Dx) {f : CoF}{body : Code}{hints : List LHint} (hf : CodeOk ρ P f body) : ∀ {n : Nat} {env nx H}{k : KC},mLoopAN P D cx hints body f n env nx H k = true →
    ∃ x env' nx' H',k x env' nx' H' = true ∧ Suf H H' ∧ ∀ (c : Ctx),roomC c.nt body = true → LW ρ P c body env nx H x env' nx' H'
  | 0,env,nx,H,k,h => by cases (show false = true from h)
  | n + 1,env,nx,H,k,h => by
    have core : ∀ env1 H1,f env1 nx H1 (seqK (mLoopAN P D cx hints body f n) k) = true → ∃ x env' nx' H',k x env' nx' H' = true ∧ Suf H1 H' ∧ ∀ (c : Ctx),roomC c.nt body = true → LW ρ P c body env1 nx H1 x env' nx' H' := by
      intro env0 H0 h
      obtain ⟨x,env1,nx1,H1,h1,h2,h3⟩ := hf _ _ _ _ h
      cases x with
      | normal =>
        obtain ⟨y,env2,nx2,H2,k1,k2,k3⟩ := loopA_ok hD hcx hdx hf (show mLoopAN P D cx hints body f n env1 nx1 H1 k = true from h1)
        refine ⟨y,env2,nx2,H2,k1,h2.trans k2,fun c hr φ tmps w hs b kk cs => ?_⟩
        obtain ⟨e,a1,w1,⟨rfl,hd,φ',hs'⟩,harr⟩ := h3 c hr φ tmps w hs b (.inLoop body :: kk) cs
        obtain ⟨e2,a2,w2,q2,harr2⟩ := k3 c hr φ' a1.tmps w1 hs' b kk cs
        rw [← actE hd] at harr2
        exact ⟨e2,a2,w2,q2,.of_steps (Steps.trans harr (.one step_inLoop)) harr2⟩
      | exit i =>
        refine ⟨.exit i,env1,nx1,H1,h1,h2,fun c hr φ tmps w hs b kk cs => ?_⟩
        obtain ⟨e,a1,w1,⟨rfl,hd,φ',hs'⟩,harr⟩ := h3 c hr φ tmps w hs b (.inLoop body :: kk) cs
        exact ⟨_,a1,w1,⟨rfl,hd,φ',hs'⟩,.pass (x := .inLoop body) rfl (fun _ _ => .inl (by simp [Ex.to])) harr⟩
      | ret =>
        refine ⟨.ret,env1,nx1,H1,h1,h2,fun c hr φ tmps w hs b kk cs => ?_⟩
        obtain ⟨e,a1,w1,⟨rfl,hd,φ',hs'⟩,harr⟩ := h3 c hr φ tmps w hs b (.inLoop body :: kk) cs
        exact ⟨_,a1,w1,⟨rfl,hd,φ',hs'⟩,.pass (x := .inLoop body) rfl (fun _ _ => .inl (by simp [Ex.to])) harr⟩
    rcases tryA_ok hD hcx hdx (show tryA P D cx hints body env nx H (fun env' H' => f env' nx H' (seqK (mLoopAN P D cx hints body f n) k)) (f env nx H (seqK (mLoopAN P D cx hints body f n) k)) = true from h) with h|⟨env1,H1,h,hsuf,hj⟩
    · exact core env H h
    · obtain ⟨x,env',nx',H',a,b,d⟩ := core env1 H1 h
      refine ⟨x,env',nx',H',a,hsuf.trans b,fun c hr φ tmps w hst bb kk cs => ?_⟩
      obtain ⟨φ1,t1,w1,s1,p1⟩ := hj c hr φ tmps w hst bb kk cs
      obtain ⟨e,a',w',q,harr⟩ := d c hr φ1 t1 w1 s1 bb kk cs
      exact ⟨e,a',w',q,.of_steps p1 harr⟩
theorem codeA_ok (hD : OkD D ρ) (hcx : ∀ ρ' Dx,OkD Dx ρ' → CallOk ρ' P (cx Dx)) (hdx : ∀ ρ' Dx,OkD Dx ρ' → DrawOk ρ' P Dx) (hdr : DrawOk ρ P D) {call : CallK} (hc : CallOk ρ P call) (hints : List LHint) : ∀ (code : Code),CodeOk ρ P (codeA P D cx call hints code) code
  | .skip => fun env nx H k h => ⟨.normal,env,nx,H,h,Suf.refl H,fun c _ φ tmps w hs => wp_skip ⟨rfl,rfl,φ,hs⟩⟩
  | .region id ops false => fun env nx H k h => by
    obtain ⟨env',nx',H',h1,h2,h3⟩ := opsF_ok hD hc (show opsF P D call ops ops.toList env nx H k = true from h)
    exact ⟨.normal,env',nx',H',h1,h2,fun c hr φ tmps w hs => wp_region_list (h3 c hr _ (fun φ tmps w hs => ⟨rfl,rfl,φ,hs⟩) φ tmps w hs)⟩
  | .region id ops true => fun env nx H k h => by
    obtain ⟨env',nx',H',h1,h2,h3⟩ := hdr hc (show drawF P D call ops env nx H k = true from h)
    exact ⟨.normal,env',nx',H',h1,h2,fun c hr => h3 c id hr⟩
  | .seq a b => seq_ok (codeA_ok hD hcx hdx hdr hc hints a) (codeA_ok hD hcx hdx hdr hc hints b)
  | .cond x t e => fun env nx H k h => by
    obtain ⟨v,h1,h⟩ := ob_inv (show ob (ev env x) (fun v => onB v (codeA P D cx call hints t env nx H k) (codeA P D cx call hints e env nx H k)) = true from h)
    have room : ∀ {nt : Nat},roomC nt (.cond x t e) = true → roomC nt t = true ∧ roomC nt e = true := fun hr => oc_inv hr
    have ev' : ∀ {c φ tmps w b},St ρ c nx env H φ tmps w → v = .b b → (act tmps).eval x = .bool b := fun hs e1 => by
      have := ev_rel hs h1
      rw [e1] at this
      generalize (act _).eval x = y at this
      cases this; rfl
    rcases onB_inv h with ⟨e1,h⟩|⟨e1,h⟩
    · obtain ⟨y,env',nx',H',k1,k2,k3⟩ := codeA_ok hD hcx hdx hdr hc hints t _ _ _ _ h
      exact ⟨y,env',nx',H',k1,k2,fun c hr φ tmps w hs => wp_cond (ev' hs e1) (k3 c (room hr).1 φ tmps w hs)⟩
    · obtain ⟨y,env',nx',H',k1,k2,k3⟩ := codeA_ok hD hcx hdx hdr hc hints e _ _ _ _ h
      exact ⟨y,env',nx',H',k1,k2,fun c hr φ tmps w hs => wp_cond (ev' hs e1) (k3 c (room hr).2 φ tmps w hs)⟩
  | .block id body => fun env nx H k h => by
    obtain ⟨x,env1,nx1,H1,h1,h2,h3⟩ := codeA_ok hD hcx hdx hdr hc hints body _ _ _ _ (show codeA P D cx call hints body env nx H (blockK id k) = true from h)
    cases x with
    | normal =>
      refine ⟨.normal,env1,nx1,H1,h1,h2,fun c hr φ tmps w hs => wp_block (Code.wp_mono (fun e a' w' hp => ?_) (h3 c hr φ tmps w hs))⟩
      obtain ⟨rfl,hd⟩ := hp
      exact ⟨rfl,hd⟩
    | ret =>
      refine ⟨.ret,env1,nx1,H1,h1,h2,fun c hr φ tmps w hs => wp_block (Code.wp_mono (fun e a' w' hp => ?_) (h3 c hr φ tmps w hs))⟩
      obtain ⟨rfl,hd⟩ := hp
      exact ⟨rfl,hd⟩
    | exit i =>
      rcases ow_inv (show ow (Nat.beq i id) (k .normal env1 nx1 H1) (k (.exit i) env1 nx1 H1) = true from h1) with ⟨e1,h1⟩|⟨e1,h1⟩
      · have e1 := Nat.eq_of_beq_eq_true e1
        refine ⟨.normal,env1,nx1,H1,h1,h2,fun c hr φ tmps w hs => wp_block (Code.wp_mono (fun e a' w' hp => ?_) (h3 c hr φ tmps w hs))⟩
        obtain ⟨rfl,hd⟩ := hp
        show (if i = id then PostB ρ c .normal env1 nx1 H1 .normal a' w' else _)
        rw [if_pos e1]
        exact ⟨rfl,hd⟩
      · have e1 : i ≠ id := fun e => by rw [e,Nat.beq_refl] at e1; cases e1
        refine ⟨.exit i,env1,nx1,H1,h1,h2,fun c hr φ tmps w hs => wp_block (Code.wp_mono (fun e a' w' hp => ?_) (h3 c hr φ tmps w hs))⟩
        obtain ⟨rfl,hd⟩ := hp
        show (if i = id then _ else PostB ρ c (.exit i) env1 nx1 H1 (.exit i) a' w')
        rw [if_neg e1]
        exact ⟨rfl,hd⟩
  | .loop body => fun env nx H k h => by
    obtain ⟨x,env',nx',H',h1,h2,h3⟩ := loopA_ok hD hcx hdx (codeA_ok hD hcx hdx hdr hc hints body) (show mLoopAN P D cx hints body (codeA P D cx call hints body) rounds env nx H k = true from h)
    refine ⟨x,env',nx',H',h1,h2,fun c hr φ tmps w hst b kk cs => ?_⟩
    obtain ⟨e,a',w',hq,harr⟩ := h3 c hr φ tmps w hst b kk cs
    exact ⟨e,a',w',hq,.of_steps (.one step_loop) harr⟩
  | .exit id => fun env nx H k h => ⟨.exit id,env,nx,H,h,Suf.refl H,fun c _ φ tmps w hs => wp_exit ⟨rfl,rfl,φ,hs⟩⟩
  | .ret => fun env nx H k h => ⟨.ret,env,nx,H,h,Suf.refl H,fun c _ φ tmps w hs => wp_ret ⟨rfl,rfl,φ,hs⟩⟩
  | .rangeFunc .. => fun env nx H k h => by cases (show false = true from h)
  | .scope .. => fun env nx H k h => by cases (show false = true from h)
  | .label .. => fun env nx H k h => by cases (show false = true from h)
  | .goto .. => fun env nx H k h => by cases (show false = true from h)
  | .refuse .. => fun env nx H k h => by cases (show false = true from h)
theorem stepA_ok (hD : OkD D ρ) (hcx : ∀ ρ' Dx,OkD Dx ρ' → CallOk ρ' P (cx Dx)) (hdx : ∀ ρ' Dx,OkD Dx ρ' → DrawOk ρ' P Dx) (hdr : DrawOk ρ P D) {call : CallK} (hc : CallOk ρ P call) (ls : LHs) : CallOk ρ P (stepA P D cx call ls) := fun {g args nx H k} h => by
  have h : (List.rec (motive := fun _ => Bool) (stepF P D call g args nx H k) (fun _ _ _ => ob (tfun P g) fun r => oc (Nat.ble (len args) r.1) (codeA P D cx call (lhOf ls g) r.2.1 (argE args 0) nx H (finK P r.2.2 k))) (lhOf ls g) : Bool) = true := h
  by_cases hnil : lhOf ls g = []
  · rw [hnil] at h; exact stepF_ok hD hdr hc h
  obtain ⟨hh,tt,hcons⟩ := List.exists_cons_of_ne_nil hnil
  have h : ob (tfun P g) (fun r => oc (Nat.ble (len args) r.1) (codeA P D cx call (lhOf ls g) r.2.1 (argE args 0) nx H (finK P r.2.2 k))) = true := by
    generalize hx : ob (tfun P g) (fun r => oc (Nat.ble (len args) r.1) (codeA P D cx call (lhOf ls g) r.2.1 (argE args 0) nx H (finK P r.2.2 k))) = X at h ⊢
    rw [hcons] at h; exact h
  obtain ⟨r,h1,h⟩ := ob_inv h
  obtain ⟨h2,h⟩ := oc_inv h
  obtain ⟨fn,f1,f2,f3,f4,f5,f6⟩ := tfun_some h1
  have hle := Nat.le_of_ble_eq_true h2
  rw [len_eq] at hle
  obtain ⟨x,env',nx',H',k1,k2,k3⟩ := codeA_ok hD hcx hdx hdr hc (lhOf ls g) r.2.1 _ _ _ _ h
  have fin : ∃ v,k v nx' H' = true ∧ (x = .ret ∨ x = .normal) ∧ ∀ {c φ tmps w},St ρ c nx' env' H' φ tmps w → ∃ u,(results fn tmps).run P w = .ok u w ∧ Rel ρ φ nx' v u := by
    cases x with
    | normal =>
      obtain ⟨xs,g1,g2⟩ := results_ok (ρ := ρ) (nx := nx') (fn := fn) (show resL P env' H' fn.results.toList (fun xs => k (packM xs) nx' H') = true by rw [f6]; exact k1)
      exact ⟨_,g1,.inr rfl,g2⟩
    | exit i => cases (show false = true from k1)
    | ret =>
      obtain ⟨xs,g1,g2⟩ := results_ok (ρ := ρ) (nx := nx') (fn := fn) (show resL P env' H' fn.results.toList (fun xs => k (packM xs) nx' H') = true by rw [f6]; exact k1)
      exact ⟨_,g1,.inl rfl,g2⟩
  obtain ⟨v,hk,hx,hres⟩ := fin
  refine ⟨v,nx',H',⟨⟨fn,f1,by rw [f2]; rfl,f3⟩,fun w φ vals hok hsz hargs => ?_⟩,hk,k2⟩
  let c : Ctx := { w0 := w,O0 := Own φ H,k := nx,φ0 := φ,nt := fn.ntmps }
  refine calls_of_wp f1 f2 ?_
  have hst : St ρ c nx (argE args 0) H φ (vals ++ Array.replicate (fn.ntmps - vals.size) undef) w := by
    refine ⟨hok,fun n a hk => ?_,Ext.refl _ _,⟨Nat.le_refl _,fun n _ => rfl⟩,by show (vals ++ Array.replicate (fn.ntmps - vals.size) undef).size = fn.ntmps; simp; omega⟩
    rw [look_argE] at hk
    simp only [Nat.zero_le,if_true,Nat.sub_zero] at hk
    have hlt : n < vals.size := by rw [hsz]; exact (List.getElem?_eq_some_iff.1 hk).1
    exact ⟨vals[n],by rw [Array.getElem?_append,if_pos hlt]; simp [hlt],hargs n a vals[n] hk (by simp [hlt])⟩
  refine Code.wp_mono (fun e a w' hp => ?_) (k3 c (by show roomC fn.ntmps r.2.1 = true; rw [f4]; exact f5) φ _ w hst)
  obtain ⟨rfl,hd,φ',hs'⟩ := hp
  obtain ⟨u,u1,u2⟩ := hres hs'
  have key : a.defers = [] ∧ ∃ v',(results fn a.tmps).run P w' = .ok v' w' ∧ ∃ φ' v'',Ending.returned v' = .returned v'' ∧ Ok ρ φ' nx' H' w' ∧ Rel ρ φ' nx' v v'' ∧ Ext w w' (Own φ H) (Own φ' H') ∧ nx ≤ nx' ∧ ∀ n,n < nx → φ' n = φ n :=
    ⟨hd,u,u1,φ',u,rfl,hs'.ok,u2,hs'.ext,hs'.keep.1,hs'.keep.2⟩
  rcases hx with rfl|rfl
  · exact key
  · exact key
theorem gcdraw (hm : P.follows .mixedOrders = true) : ∀ ρ' Dx,OkD Dx ρ' → DrawOk ρ' P Dx := fun _ _ h => drawOk hm h
theorem runZ_ok (hm : P.follows .mixedOrders = true) (hD : OkD D ρ) {fs : List PFact} (hfs : PFactsOk ρ P fs) {rs rx : TRs} (hrs : TRulesOk ρ P rs) (hrx : ∀ ρ',TRulesOk ρ' P rx) (ls : LHs) (gs : List Nat) : ∀ (n : Nat),CallOk ρ P (runZ P D fs rs rx ls gs n)
  | 0 => fun h => by cases (show false = true from h)
  | n + 1 => pfactsW_ok (tsW_ok hD hrs (gcW_ok (stepA_ok hD (fun ρ' Dx h => runY_ok hm h pfacts_nil (hrx ρ') [] 100) (gcdraw hm) (drawOk hm hD) (runZ_ok hm hD hfs hrs hrx ls gs n) ls) gs)) hfs
theorem truleZ_ok (hm : P.follows .mixedOrders = true) (hD : OkD D ρ) {fs : List PFact} (hfs : PFactsOk ρ P fs) {rs rx : TRs} (hrs : TRulesOk ρ P rs) (hrx : ∀ ρ',TRulesOk ρ' P rx) {ls : LHs}{gs : List Nat}{n : Nat}{r : TRule} (h : truleZ P D fs rs rx ls gs n r = true) : TRuleAt ρ P r := by
  obtain ⟨h1,h⟩ := oc_inv h
  obtain ⟨v,m',H',t,hk,_⟩ := runZ_ok hm hD hfs hrs hrx ls gs n h
  exact .of h1 t hk
theorem Ans.ofZ {P : Program} (hm : P.follows .mixedOrders = true) (hD : OkD D ρ) {fs : List PFact} (hfs : PFactsOk ρ P fs) {rs rx : TRs} (hrs : TRulesOk ρ P rs) (hrx : ∀ ρ',TRulesOk ρ' P rx) {ls : LHs}{gs : List Nat}{n g : Nat}{args : List MV}{x : MV}
    (h : runZ P D fs rs rx ls gs n g args 0 [] (fun v _ _ => eqV v x) = true) : Ans ρ P g args x := by
  obtain ⟨r,nx',H',t,hk,_⟩ := runZ_ok hm hD hfs hrs hrx ls gs n h
  have hH : ∀ H : Heap,AlikeH ρ ρ H H := fun H => ⟨fun n o hn => ⟨o,hn,fun φ nx => ⟨Iff.rfl,fun w n => Iff.rfl⟩⟩,fun n o hn => ⟨o,hn,fun φ nx => ⟨Iff.rfl,fun w n => Iff.rfl⟩⟩⟩
  exact ⟨nx',H',t.alike rfl (fun i a a' h1 h2 φ nx => by rw [h1] at h2; cases h2; exact fun u => Iff.rfl) (hH []) (fun φ nx => (eqV_ok r x hk).symm) (hH H')⟩
end
set_option maxRecDepth 100000
open Go.Proofs
theorem mixed : Tryz.prog.follows .mixedOrders = true := by kernel_rfl
noncomputable section
def D0 : Dm := ⟨[],[]⟩
end
noncomputable section
def rA1 : Rule := ⟨62,[.agg [.n .i64 72,.sl 5 91 0 1 (some 1)]],92,[(87,.cells [.n .i64 3,.n .i64 0,.n .i64 0,.n .i64 40,.n .i64 0,.n .i64 0,.n .i64 0,.n .i64 40]),(89,.cells [.n .i64 0,.n .i64 72]),(91,.cells [.n .i64 1,.n .u32 12812670,.n .i64 2,.sl 4 87 0 2 (some 2),.sl 2 89 0 1 (some 1)])],⟨[],[]⟩,.b true,[],[]⟩
def rA2 : Rule := ⟨11,[.ptr 95 0,.n .i64 1],180,[(87,.cells [.n .i64 3,.n .i64 0,.n .i64 0,.n .i64 40,.n .i64 0,.n .i64 0,.n .i64 0,.n .i64 40]),(89,.cells [.n .i64 0,.n .i64 72]),(91,.cells [.n .i64 1,.n .u32 12812670,.n .i64 2,.sl 4 87 0 2 (some 2),.sl 2 89 0 1 (some 1)]),(93,.cells [.v (.slice none 0 0),.n .i64 0]),(95,.cells [.n .i64 72,.sl 5 91 0 1 (some 1),.n .i64 0,.a .i64 0 [1],.v (.pointer none),.ptr 92 0,.sl 3 117 0 1 none,.ptr 93 0,.mp 94,.n .i64 0]),(115,.cells [.sl 3 179 0 1 none,.n .i64 2,.n .i64 0]),(117,.cells [.ptr 114 0,.ptr 115 0,.ptr 96 0])],⟨[(0,70)],[]⟩,.v (.slice none 0 0),[(95,.cells [.n .i64 72,.sl 5 91 0 1 (some 1),.n .i64 0,.a .i64 1 [1],.v (.pointer none),.ptr 92 0,.sl 3 117 0 1 none,.ptr 93 0,.mp 94,.n .i64 0])],[(95,3)]⟩
def rA3 : Rule := ⟨11,[.ptr 95 0,.n .i64 1],658,[(87,.cells [.n .i64 3,.n .i64 0,.n .i64 0,.n .i64 40,.n .i64 0,.n .i64 0,.n .i64 0,.n .i64 40]),(89,.cells [.n .i64 0,.n .i64 72]),(91,.cells [.n .i64 1,.n .u32 12812670,.n .i64 2,.sl 4 87 0 2 (some 2),.sl 2 89 0 1 (some 1)]),(93,.cells [.sl 3 657 0 1 none,.n .i64 1]),(95,.cells [.n .i64 72,.sl 5 91 0 1 (some 1),.n .i64 0,.a .i64 0 [1],.v (.pointer none),.ptr 92 0,.sl 3 117 0 1 none,.ptr 93 0,.mp 94,.n .i64 1]),(115,.cells [.sl 3 199 0 0 (some 0),.n .i64 2,.n .i64 0]),(117,.cells [.ptr 114 0,.ptr 115 0,.ptr 96 0]),(657,.cells [.n .i64 143,.n .i64 0,.n .i64 0])],⟨[(72,141)],[]⟩,.v (.slice none 0 0),[(95,.cells [.n .i64 72,.sl 5 91 0 1 (some 1),.n .i64 0,.a .i64 1 [1],.v (.pointer none),.ptr 92 0,.sl 3 117 0 1 none,.ptr 93 0,.mp 94,.n .i64 1])],[(95,3)]⟩
end
theorem rA1_ok : RuleOk Tryz.prog rA1 ∧ onceB rA1.out = true := ruleB_ok (gs := []) (n := 1000) mixed rules_nil (by kernel_rfl)
theorem rA2_ok : RuleOk Tryz.prog rA2 ∧ onceB rA2.out = true := ruleB_ok (gs := []) (n := 1000) mixed (rules_cons rA1_ok rules_nil) (by kernel_rfl)
theorem rA3_ok : RuleOk Tryz.prog rA3 ∧ onceB rA3.out = true := ruleB_ok (gs := []) (n := 1000) mixed (rules_cons rA1_ok rules_nil) (by kernel_rfl)
theorem okD0 (ρ : Nat → Int) : OkD D0 ρ := ⟨fun i b h => by simp [D0] at h,fun f h => by simp [D0] at h⟩
theorem awake_ans (ρ : Nat → Int) : Ans ρ Tryz.prog 17 [] (.b true) := Ans.of mixed (okD0 ρ) facts_nil (rules_cons rA1_ok (rules_cons rA2_ok (rules_cons rA3_ok rules_nil))) (gs := [9,31,20,11]) (n := 1000) (by kernel_rfl)
noncomputable def awakeF : Fact := ⟨17,[],.b true⟩
theorem awakeF_ok (ρ : Nat → Int) : FactOk ρ Tryz.prog awakeF := ⟨by kernel_rfl,by kernel_rfl,awake_ans ρ⟩
noncomputable section
def cnD : Dm := ⟨[(-1152921504606846976,1152921504606846975),(-1152921504606846976,1152921504606846975)],[]⟩
def awakeP : PFact := ⟨17,[],.b true⟩
abbrev cnC : List PFact := []
abbrev cnArgs (a b : Int) : List MV := [.a .i64 a [8],.a .i64 b [0,8]]
abbrev cnRun (a b : Int) (rs rx : TRs) (ls : LHs) : Bool := runZ Tryz.prog cnD [awakeP] rs rx ls [] 1000 5 (cnArgs a b) 0 [] (fun v _ _ => eqV v (.b true))
end
end Go.Proofs.YtmingcnmgdgokaaGreat.Pv.M
