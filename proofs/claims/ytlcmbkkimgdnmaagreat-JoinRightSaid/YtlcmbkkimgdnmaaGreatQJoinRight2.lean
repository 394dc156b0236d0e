/- What the law JoinRight needs, and no more: merged out of texts of this session by a program of it (wip/tools/prune.py). -/
import Derived.Test.YtlcmbkkimgdnmaaGreatQJoinRight1
set_option linter.unusedVariables false
set_option linter.unusedSimpArgs false
namespace Go.Proofs.YtlcmbkkimgdnmaaGreat.Pv
open Go
def CE (z : List Nat) (i : Nat) : List Nat := if z.contains i then z else z ++ [i]
def wg (ops : Array Oper) : List (List Nat) :=
  ops.toList.foldl (fun B o => B ++ [(o.after.toList.filter fun e => Region.binds .any e).foldl (fun z e => (e.on :: B.getD e.on []).foldl CE z) []]) []
inductive XD where
  | o (n : Nat)
  | c (v : PV)
def iI : List XD → Nat
  | [] => 0
  | .o n :: t => n + iI t
  | .c _ :: t => 1 + iI t
theorem rA {A : ah} : ∀ {B : ah},(∀ n o,(n,o) ∈ B → look A n = some o) → sameH A B
  | [],_ => trivial
  | (n,o) :: t,h => ⟨h n o List.mem_cons_self,rA fun a b hm => h a b (List.mem_cons_of_mem _ hm)⟩
theorem kE {α : Type}{l : List (Nat × α)} : ∀ {ks : List Nat}{n : Nat}{o : α},(n,o) ∈ sel l ks → n ∈ ks ∧ look l n = some o
  | [],n,o,h => by simp [sel] at h
  | k :: t,n,o,h => by
    simp only [sel] at h
    split at h
    · rename_i x hx
      rcases List.mem_cons.1 h with h|h
      · cases h; exact ⟨List.mem_cons_self,hx⟩
      · exact ⟨List.mem_cons_of_mem _ (kE h).1,(kE h).2⟩
    · exact ⟨List.mem_cons_of_mem _ (kE h).1,(kE h).2⟩
theorem na {α : Type}{l : List (Nat × α)} : ∀ {ks : List Nat}{n : Nat}{o : α},n ∈ ks → look l n = some o → look (sel l ks) n = some o
  | [],n,o,h,_ => by cases h
  | k :: t,n,o,h,hl => by
    simp only [sel]
    by_cases hk : k = n
    · subst hk; rw [hl]; simp [look]
    · have ht : n ∈ t := by rcases List.mem_cons.1 h with h|h; exact absurd h.symm hk; exact h
      split
      · rw [bv _ _ hk]; exact na ht hl
      · exact na ht hl
theorem pG (H : ah) (ns : List Nat) : sameH (sel H ns) (sel H ns) := rA fun n o h => by
  obtain ⟨h1,h2⟩ := kE h
  exact na h1 h2
theorem pZ : ∀ {ns : List Nat}{l : ah},(∀ p ∈ l,p.1 ∈ ns) → drops l ns = []
  | [],l,h => by
    cases l with
    | nil => rfl
    | cons p t => exact absurd (h p List.mem_cons_self) (by simp)
  | n :: t,l,h => by
    rw [drops]
    refine pZ fun p hp => ?_
    have : p ∈ l ∧ p.1 ≠ n := by
      clear h
      induction l with
      | nil => simp [drop] at hp
      | cons q l ih =>
        obtain ⟨a,b⟩ := q
        simp only [drop] at hp
        split at hp
        · exact ⟨List.mem_cons_of_mem _ (ih hp).1,(ih hp).2⟩
        · rename_i hne
          rcases List.mem_cons.1 hp with h|h
          · subst h; exact ⟨List.mem_cons_self,hne⟩
          · exact ⟨List.mem_cons_of_mem _ (ih h).1,(ih h).2⟩
    rcases List.mem_cons.1 (h p this.1) with h2|h2
    · exact absurd h2 this.2
    · exact h2
theorem ol (l : ah) : drops l (l.map Prod.fst) = [] := pZ fun p hp => List.mem_map_of_mem hp
def lI (env : aI) : Op → List Nat × List Nat
  | .load _ x => (uk env x,[])
  | .call { callee := .builtin _,args,argTypes := _ } => (args.toList.flatMap (uk env),[])
  | .store _ x _ => ([],uk env x)
  | _ => ([],[])
section
variable (P : Program) (tab : bR) (ops : Array Oper) (B : List (List Nat))
def Ag (cl : Option PV) (o : Oper) (acc : List Cert) (env : aI) (nx : Nat) (H : ah) : Option (List Prop × PV × ah × ah × ah × Nat) :=
  match cl with
  | some v => (match nM P tab (cutE ops o env) (sel H (lI (cutE ops o env) o.op).1) v o.op with
    | some cs => some (cs,v,sel H (lI (cutE ops o env) o.op).1,[],[],nx)
    | none => none)
  | none => (match qr tab (cutE ops o env) (sel H (lI (cutE ops o env) o.op).1) o.op with
    | some (cs,v) => some (cs,v,sel H (lI (cutE ops o env) o.op).1,[],[],nx)
    | none => (match tO tab (cutE ops o env) nx (sel H (lI (cutE ops o env) o.op).2) o.op with
      | some (v,nx',H1) => (match Nat.ble nx nx' with
        | true => some ([],v,[],sel H (lI (cutE ops o env) o.op).2,H1,nx')
        | false => none)
      | none => none))
def nK (cl : Option PV) (o : Oper) (acc : List Cert) (env : aI) (nx : Nat) (H : ah) : Option (List Prop × List Cert × aI × Nat × ah) :=
  match oa ops (cutE ops o env) o.guard with
  | some true => (match Ag P tab ops cl o acc env nx H with
    | some (cs,v,hR,hT,hN,nx') => some (cs,⟨o,some v,cutE ops o env,hR,hT,hN,nx,nx',B.getD acc.length []⟩ :: acc,putE o.dst v env,nx',hN ++ drops H (hT.map Prod.fst))
    | none => none)
  | some false => some ([],⟨o,some aZ,cutE ops o env,[],[],[],nx,nx,B.getD acc.length []⟩ :: acc,fQ o.dst env,nx,H)
  | none => none
def f7 : Nat → List XD → List Oper → List Cert → aI → Nat → ah → Option (List Prop × List Cert × aI × Nat × ah)
  | 0,_,_,_,_,_,_ => none
  | f + 1,[],l,acc,env,nx,H => some ([],acc,env,nx,H)
  | f + 1,.o 0 :: s,l,acc,env,nx,H => f7 f s l acc env nx H
  | f + 1,.o (n + 1) :: s,l,acc,env,nx,H => match l with
    | [] => none
    | o :: l => (match nK P tab ops B none o acc env nx H with
      | some (cs,acc',env',nx',H') => (match f7 f (.o n :: s) l acc' env' nx' H' with
        | some (cs2,r) => some (cs ++ cs2,r)
        | none => none)
      | none => none)
  | f + 1,.c v :: s,l,acc,env,nx,H => match l with
    | [] => none
    | o :: l => (match nK P tab ops B (some v) o acc env nx H with
      | some (cs,acc',env',nx',H') => (match f7 f s l acc' env' nx' H' with
        | some (cs2,r) => some (cs ++ cs2,r)
        | none => none)
      | none => none)
end
section
variable {P : Program}{tab : bR}{ops : Array Oper}{B : List (List Nat)}{C : List Cert → aI → Nat → ah → Prop}
theorem pm {cl : Option PV}{o : Oper}{acc acc' : List Cert}{rest : List Oper}{env env' : aI}{nx nx' : Nat}{H H' : ah}{cs : List Prop} (h : nK P tab ops B cl o acc env nx H = some (cs,acc',env',nx',H')) (hc : AllP cs) (k : dM P tab ops B rest acc' env' nx' H' C) :
    dM P tab ops B (o :: rest) acc env nx H C := by
  have gd : ∀ {b : Bool},oa ops (cutE ops o env) o.guard = some b →
      (b = true → ∃ rN tN p nx' H',stepOp P tab (cutE ops o env) nx (sel H rN ++ sel H tN) (fun a b d => a = p ∧ b = nx' ∧ d = H') o.op ∧ nx ≤ nx' ∧ sameH H' (sel H rN) ∧
        dM P tab ops B rest (⟨o,some p,cutE ops o env,sel H rN,sel H tN,drops H' ((sel H rN).map Prod.fst),nx,nx',B.getD acc.length []⟩ :: acc) (putE o.dst p env) nx' (drops H' ((sel H rN).map Prod.fst) ++ drops H ((sel H tN).map Prod.fst)) C) →
      (b = false → dM P tab ops B rest (⟨o,some aZ,cutE ops o env,[],[],[],nx,nx,B.getD acc.length []⟩ :: acc) (fQ o.dst env) nx H C) → dM P tab ops B (o :: rest) acc env nx H C := by
    intro b hg h1 h2
    unfold dM
    cases hgu : o.guard with
    | none => rw [hgu] at hg; cases hg; exact h1 rfl
    | some g =>
      obtain ⟨j,want⟩ := g
      rw [hgu] at hg
      simp only [oa] at hg
      split at hg
      · rename_i d hj
        split at hg
        · rename_i v hl
          refine ⟨d,v,hj,hl,fun e => ?_,fun e => ?_⟩
          · rw [e] at hg; simp only [beq_self_eq_true,Option.some.injEq] at hg; exact h1 hg.symm
          · split at hg
            · rename_i b' hb'
              rw [hb'] at e
              have hne : (b' == want) = false := by simpa using e
              rw [hne] at hg; cases hg; exact h2 rfl
            · cases hg; exact h2 rfl
        · cases hg
      · cases hg
  unfold nK at h
  split at h
  · rename_i hg
    refine gd hg (fun _ => ?_) (fun e => by cases e)
    split at h
    · rename_i cs0 v hR hT hN n1 ho
      cases h
      unfold Ag at ho
      split at ho
      · split at ho
        · rename_i cs1 hcl
          cases ho
          refine ⟨(lI (cutE ops o env) o.op).1,[],v,nx,sel H (lI (cutE ops o env) o.op).1, ?_,Nat.le_refl _,pG _ _, ?_⟩
          · rw [show sel H [] = [] from rfl,List.append_nil]; exact pn hcl hc ⟨rfl,rfl,rfl⟩
          · rw [ol]; exact k
        · cases ho
      · split at ho
        · rename_i cs1 v1 hp
          cases ho
          refine ⟨(lI (cutE ops o env) o.op).1,[],v,nx,sel H (lI (cutE ops o env) o.op).1, ?_,Nat.le_refl _,pG _ _, ?_⟩
          · rw [show sel H [] = [] from rfl,List.append_nil]; exact xPure_ok hp hc ⟨rfl,rfl,rfl⟩
          · rw [ol]; exact k
        · split at ho
          · rename_i v1 n2 H1 hm
            split at ho
            · rename_i hle
              cases ho
              exact ⟨[],(lI (cutE ops o env) o.op).2,_,_,_,xMem_ok hm ⟨rfl,rfl,rfl⟩,Nat.le_of_ble_eq_true hle,trivial,k⟩
            · cases ho
          · cases ho
    · cases h
  · rename_i hg
    cases h
    exact gd hg (fun e => by cases e) (fun _ => k)
  · cases h
theorem mA : ∀ {f : Nat}{s : List XD}{l : List Oper}{acc acc' : List Cert}{env env' : aI}{nx nx' : Nat}{H H' : ah}{cs : List Prop},f7 P tab ops B f s l acc env nx H = some (cs,acc',env',nx',H') → AllP cs → dM P tab ops B (l.drop (iI s)) acc' env' nx' H' C → dM P tab ops B l acc env nx H C
  | 0,_,_,_,_,_,_,_,_,_,_,_,h,_,_ => by simp [f7] at h
  | f + 1,[],l,_,_,_,_,_,_,_,_,_,h,_,k => by
    unfold f7 at h
    cases h; exact k
  | f + 1,.o 0 :: s,l,_,_,_,_,_,_,_,_,_,h,hc,k => by
    unfold f7 at h
    refine mA h hc ?_
    rw [iI,Nat.zero_add] at k; exact k
  | f + 1,.o (n + 1) :: s,l,_,_,_,_,_,_,_,_,_,h,hc,k => by
    unfold f7 at h
    split at h
    · cases h
    · rename_i o l
      split at h
      · rename_i h0
        split at h
        · rename_i h2
          cases h
          refine pm h0 hc.left (mA h2 hc.right ?_)
          rw [iI,show n + 1 + iI s = (n + iI s) + 1 by omega,List.drop_succ_cons] at k
          exact k
        · cases h
      · cases h
  | f + 1,.c v :: s,l,_,_,_,_,_,_,_,_,_,h,hc,k => by
    unfold f7 at h
    split at h
    · cases h
    · rename_i o l
      split at h
      · rename_i h0
        split at h
        · rename_i h2
          cases h
          refine pm h0 hc.left (mA h2 hc.right ?_)
          rw [iI,show 1 + iI s = iI s + 1 by omega,List.drop_succ_cons] at k
          exact k
        · cases h
      · cases h
def Ai (r : Option (List Prop × List Cert × aI × Nat × ah)) : List Cert := match r with|some (_,a,_) => a|none => []
def Ah (r : Option (List Prop × List Cert × aI × Nat × ah)) : aI := match r with|some (_,_,e,_) => e|none => []
theorem Cg {l : List Oper}{acc : List Cert}{env : aI}{nx : Nat}{H : ah} (n : Nat) (s : List XD) (cs : List Prop) (nx' : Nat) (H' : ah)
    (h : (match f7 P tab ops B 600 s l acc env nx H with|some (cs,_,_,nx',H') => some (cs,nx',H',iI s)|none => none) = some (cs,nx',H',n)) (hc : AllP cs)
    (k : dM P tab ops B (l.drop n) (Ai (f7 P tab ops B 600 s l acc env nx H)) (Ah (f7 P tab ops B 600 s l acc env nx H)) nx' H' C) : dM P tab ops B l acc env nx H C := by
  split at h
  · rename_i cs0 a0 e0 n0 H0 hr
    cases h
    rw [hr] at k
    exact mA hr hc k
  · cases h
section
variable {rest : List Oper}{acc : List Cert}{env : aI}{nx : Nat}{H : ah}{dst : Option Nat}{op : Op}{t : Nat}{p : String}{a : Array Edge}
theorem Cf {g : Option (Nat × Bool)}{pv : PV}{nx' : Nat} (E0 : aI) (hR hT H1 Hn : ah) (h : stepOp P tab E0 nx (hR ++ hT) (fun a b d => a = pv ∧ b = nx' ∧ d = H1) op)
    (k : dM P tab ops B rest (⟨⟨dst,op,t,p,a,g⟩,some pv,E0,hR,hT,drops H1 (hR.map Prod.fst),nx,nx',B.getD acc.length []⟩ :: acc) (putE dst pv env) nx' Hn C)
    (hE : cutE ops ⟨dst,op,t,p,a,g⟩ env = E0) (h1 : sel H (hR.map Prod.fst) = hR) (h2 : sel H (hT.map Prod.fst) = hT) (hle : Nat.ble nx nx' = true) (e2 : drops H1 (hR.map Prod.fst) ++ drops H (hT.map Prod.fst) = Hn) (hs : sameH H1 hR) :
    lh P tab ops B ⟨dst,op,t,p,a,g⟩ rest acc env nx H C := BG (nx' := nx') E0 _ hR hT H1 _ Hn hE rfl h1 h2 h hle hs rfl e2 k
theorem Aj {j d : Nat}{want b : Bool} (E0 : aI) (hb : look E0 d = some (.f (.v (.bool b)))) (h1 : b = want → lh P tab ops B ⟨dst,op,t,p,a,some (j,want)⟩ rest acc env nx H C)
    (h2 : b = (!want) → dM P tab ops B rest (⟨⟨dst,op,t,p,a,some (j,want)⟩,some aZ,E0,[],[],[],nx,nx,B.getD acc.length []⟩ :: acc) (fQ dst env) nx H C)
    (hj : (ops[j]?).bind (·.dst) = some d) (hE : cutE ops ⟨dst,op,t,p,a,some (j,want)⟩ env = E0) :
    dM P tab ops B (⟨dst,op,t,p,a,some (j,want)⟩ :: rest) acc env nx H C := Cm E0 _ hE rfl hj hb h1 h2
end
theorem CI {c : Ctx}{Q : cH}{nt nx0 N : Nat}{env0 : aI}{H0 H' : ah}{acc : List Cert}{env : aI} (E : aI) (k : R P c ops [] E N H' Q) (hp : j8 nt nx0 N env0 H0 acc.reverse = true) (hE : sel env (E.map Prod.fst) = E) :
    dM P tab ops B [] acc env N H' (fun cs env' N H' => j8 nt nx0 N env0 H0 cs = true ∧ R P c ops [] env' N H' Q) :=
  Cd ⟨hp,qz (fun q x hq => by rw [← hE] at hq; exact look_sel hq) k⟩
end
def mG (H : ah) : List Nat → Option (List Obj)
  | [] => some []
  | n :: t => match look H n with
    | some o => (match mG H t with|some os => some (o :: os)|none => none)
    | none => none
theorem lookAll_ok {H : ah} : ∀ {ns : List Nat}{os : List Obj},mG H ns = some os → HandP H ns os
  | [],os,h => by cases h; trivial
  | n :: t,os,h => by
    unfold mG at h
    split at h
    · rename_i o ho
      split at h
      · rename_i os' h2; cases h; exact ⟨ho,lookAll_ok h2⟩
      · cases h
    · cases h
def n6 : List Nat → Bool
  | [] => true
  | n :: t => !(t.contains n) && n6 t
theorem pO : ∀ {ns : List Nat},n6 ns = true → ns.Nodup
  | [],_ => List.nodup_nil
  | n :: t,h => by
    unfold n6 at h
    rw [Bool.and_eq_true] at h
    exact List.nodup_cons.2 ⟨by simpa using h.1,pO h.2⟩
def o9 (env : aI) (nx : Nat) (H : ah) (f : Operand) (args : List Operand) (ns : List Nat) (r : PV) (k0 : Nat) (H0 : ah) : Option (Nat × List PV × Nat × ah × PV × Nat × ah) :=
  match ev env f with
  | some (.clo (.func g) caps) => (match evs env args with
    | some ps => (match mG (passes ns H (ps ++ caps)).2 ns with
      | some os => (match (n6 ns && ns.all fun n => decide (n < nx)) && ((passes ns H (ps ++ caps)).1.all (has fun n => ns.contains n)) && (os.all (hasO fun n => ns.contains n)) && (has (fun _ => true) r && (qG H0 && H0.all fun p => hasO (fun _ => true) p.2)) with
        | true => some (g,(passes ns H (ps ++ caps)).1.map (ren (tau ns)),ns.length,mkH 0 (os.map (renO (tau ns))),ren (sig ns nx) r,nx + (k0 - ns.length),renH (sig ns nx) H0 ++ drops (passes ns H (ps ++ caps)).2 ns)
        | false => none)
      | none => none)
    | none => none)
  | _ => none
theorem w6 {P : Program}{tab : bR}{env : aI}{nx : Nat}{H : ah}{K : PV → Nat → ah → Prop}{f : Operand}{args : Array Operand}{ts : Array Nat}{g : Nat}{ps3 : List PV}{r r2 : PV}{k0 k nx1 : Nat}{H0 H1 H3 : ah} (ns : List Nat) (ht : T P g ps3 k H1 (Ret r k0 H0)) (h : K r2 nx1 H3)
    (hk : o9 env nx H f args.toList ns r k0 H0 = some (g,ps3,k,H1,r2,nx1,H3)) : stepOp P tab env nx H K (.call { callee := .value f,args := args,argTypes := ts }) := by
  unfold o9 at hk
  split at hk
  · rename_i g' caps he
    split at hk
    · rename_i ps hps
      split at hk
      · rename_i os hos
        split at hk
        · rename_i hb
          simp only [Bool.and_eq_true] at hb
          obtain ⟨⟨⟨⟨b1,b2⟩,b3⟩,b4⟩,b5,b6,b7⟩ := hb
          cases hk
          exact yY (ps := ps) (caps := caps) ns he hps (jf (pO b1) (lookAll_ok hos)) b2 b3 b4 ht b5 (kG b6) b7 h
        · cases hk
      · cases hk
    · cases hk
  · cases hk
theorem aN {P : Program}{tab : bR}{env : aI}{nx : Nat}{H : ah}{K : PV → Nat → ah → Prop}{f : Operand}{args : Array Operand}{ts : Array Nat}{g : Nat}{ps3 : List PV}{r : PV}{k0 k : Nat}{H0 H1 : ah} (nx1 : Nat) (r2 : PV) (H3 : ah) (ns : List Nat) (ht : T P g ps3 k H1 (Ret r k0 H0)) (h : K r2 nx1 H3)
    (hk : o9 env nx H f args.toList ns r k0 H0 = some (g,ps3,k,H1,r2,nx1,H3) := by kernel_rfl) : stepOp P tab env nx H K (.call { callee := .value f,args := args,argTypes := ts }) := w6 ns ht h hk
theorem nb {a b : Nat} (h : Nat.ble a b = true) : a ≤ b := Nat.le_of_ble_eq_true h
section
variable {P : Program}{tab : bR}{c : Ctx}{ops : Array Oper}{nt nx : Nat}{env : aI}{H : ah}{Q Q2 : cH}{F : aI → Nat → ah → Prop}{a b : Code}
theorem re (h : F env nx H) : R P c ops [] env nx H (thenP F Q) := bG (ak h)
theorem sr {id : Nat} (h : R P c ops ops.toList env nx H (thenP (fun env nx H => W P c b env nx H Q) Q)) : W P c (.seq (.region id ops false) b) env nx H Q := an (bk h)
def ni (tab : bR) (env : aI) (H : ah) : List ResultVar → Option (List PV)
  | [] => some []
  | .tmp t :: r => match look env t with
    | some x => (match ni tab env H r with|some ys => some (x :: ys)|none => none)
    | none => none
  | .cell a t :: r => match tab t with
    | some i => (match oG i with
      | true => (match look env a with
        | some (.ptr n off) => (match look H n with
          | some (.obj cs) => (match Nat.ble (off + i.size) cs.length with
            | true => (match ni tab env H r with
              | some ys => some ((if i.kd.agg then mkAgg ((cs.drop off).take i.size) else (cs.drop off).headD (.f (.v undef))) :: ys)
              | none => none)
            | false => none)
          | _ => none)
        | _ => none)
      | false => none)
    | none => none
theorem retC_ok : ∀ {rs : List ResultVar}{xs : List PV},ni tab env H rs = some xs → retL tab env H rs xs
  | [],xs,h => by cases h; exact ret_nil
  | .tmp t :: r,xs,h => by
    unfold ni at h
    split at h
    · rename_i x hx
      split at h
      · rename_i ys hy; cases h; exact ret_tmp hx (retC_ok hy)
      · cases h
    · cases h
  | .cell a t :: r,xs,h => by
    unfold ni at h
    split at h
    · rename_i i hi
      split at h
      · rename_i hz
        split at h
        · rename_i n off he
          split at h
          · rename_i cs hl
            split at h
            · rename_i hb
              split at h
              · rename_i ys hy; cases h; exact ret_cell hi (szOk_of hz) he hl (nb hb) rfl (retC_ok hy)
              · cases h
            · cases h
          · cases h
        · cases h
      · cases h
    · cases h
theorem CM {rs : List ResultVar}{k : Nat}{r : PV} (h : (ni tab env H rs).map j9 = some r) (hr : has (fun _ => false) r = true) : pj tab rs k (Ret r k []) .ret env nx H := by
  obtain ⟨xs,h1,h2⟩ := Option.map_eq_some_iff.1 h
  exact pV (retC_ok h1) h2 hr ⟨rfl,rfl,rfl⟩
theorem fp {rs : List ResultVar}{k : Nat}{r : PV} (h : (ni tab env H rs).map j9 = some r := by kernel_rfl) (hr : has (fun _ => false) r = true := by kernel_rfl) : pj tab rs k (Ret r k []) .ret env nx H := CM h hr
end
def codeD : Code → List Nat
  | .region _ ops _ => dsts ops.toList
  | .seq a b => codeD a ++ codeD b
  | .cond _ a b => codeD a ++ codeD b
  | _ => []
def ow (P : Program) (tab : bR) (nt : Nat) : Nat → List (List XA) → Code → aI → Nat → ah → Option (List Prop × List (List XA) × aI)
  | 0,_,_,_,_,_ => none
  | f + 1,ss,.seq a b,env,nx,H => (match ow P tab nt f ss a env nx H with
    | some (cs,ss1,e1) => (match ow P tab nt f ss1 b e1 nx H with
      | some (cs2,ss2,e2) => some (cs ++ cs2,ss2,e2)
      | none => none)
    | none => none)
  | f + 1,s :: ss,.region _ ops false,env,nx,H => (match dV P false tab nt ops 600 s ops.toList env nx H with
    | some (cs,e,_,_) => some (cs,ss,e)
    | none => none)
  | _,_,_,_,_,_ => none
def qM (P : Program) (tab : bR) (nt t : Nat) : Nat → List (List XA) → Code → aI → Nat → ah → Option (List Prop × Bool × List (List XA))
  | 0,_,_,_,_,_ => none
  | f + 1,ss,.seq a b,env,nx,H => (match ow P tab nt f ss a env nx H with
    | some (cs,ss1,e1) => (match qM P tab nt t f ss1 b e1 nx H with
      | some (cs2,v,ss2) => some (cs ++ cs2,v,ss2)
      | none => none)
    | none => none)
  | f + 1,ss,.cond (.tmp t') .skip els,env,nx,H => (match Nat.beq t' t with
    | true => (match look env t with
      | some (.f (.v (.bool b))) => (match qM P tab nt t f ss els ((t,.f (.v (.bool false))) :: env) nx H with
        | some (cs,u,ss1) => some (oV (b = false) cs,b || u,ss1)
        | none => none)
      | _ => none)
    | false => none)
  | f + 1,s :: ss,.region _ ops false,env,nx,H => (match dV P false tab nt ops 600 s ops.toList env nx H with
    | some (cs,e,_,_) => (match look e t with
      | some (.f (.v (.bool u))) => some (cs,u,ss)
      | _ => none)
    | none => none)
  | _,_,_,_,_,_ => none
section
variable {P : Program}{tab : bR}{c : Ctx}{nt : Nat}
theorem xW {Q : cH}{code : Code}{E env : aI}{nx : Nat}{H : ah} (he : ∀ k p,look E k = some p → look env k = some p) (h : W P c code E nx H Q) : W P c code env nx H Q :=
  fun φ tmps w hs => h φ tmps w { hs with env := fun k p hk => hs.env k p (he k p hk) }
theorem mB (ht : TabOk P tab) (hnt : c.nt = nt) : ∀ {f : Nat}{ss ss' : List (List XA)}{code : Code}{env env' : aI}{nx : Nat}{H : ah}{cs : List Prop}{Q : cH},ow P tab nt f ss code env nx H = some (cs,ss',env') → AllP cs → Q .normal env' nx H →
    W P c code env nx H Q ∧ ∀ k,k ∉ codeD code → look env' k = look env k
  | 0,_,_,_,_,_,_,_,_,_,h,_,_ => by simp [ow] at h
  | f + 1,ss,_,code,env,_,nx,H,_,Q,h,hc,k => by
    unfold ow at h
    split at h
    · cases h
    · rename_i f' a b hf
      cases hf
      split at h
      · rename_i cs1 ss1 e1 h1
        split at h
        · rename_i cs2 ss2 e2 h2
          cases h
          have k2 := mB ht hnt h2 hc.right k
          have k1 := mB ht hnt (Q := thenP (fun env nx H => W P c b env nx H Q) Q) h1 hc.left k2.1
          refine ⟨an k1.1,fun q hq => ?_⟩
          simp only [codeD,List.mem_append,not_or] at hq
          rw [k2.2 q hq.2,k1.2 q hq.1]
        · cases h
      · cases h
    · rename_i f' s ss0 id ops hf
      cases hf
      split at h
      · rename_i cs1 e1 n1 H1 h1
        cases h
        obtain ⟨z1,z2⟩ := xGo_pure h1
        subst z1; subst z2
        exact ⟨bk (xGo_ok ht hnt h1 hc (bG k)),fun q hq => fM h1 q hq⟩
      · cases h
    · cases h
theorem qL (ht : TabOk P tab) (hnt : c.nt = nt) {t : Nat} : ∀ {f : Nat}{ss ss' : List (List XA)}{code : Code}{env : aI}{nx : Nat}{H : ah}{cs : List Prop}{v : Bool}{Q : cH},qM P tab nt t f ss code env nx H = some (cs,v,ss') → AllP cs →
    (∀ e,look e t = some (.f (.v (.bool v))) → (∀ k,k ∉ codeD code → k ≠ t → look e k = look env k) → Q .normal e nx H) → W P c code env nx H Q
  | 0,_,_,_,_,_,_,_,_,_,h,_,_ => by simp [qM] at h
  | f + 1,ss,_,code,env,nx,H,_,_,Q,h,hc,k => by
    unfold qM at h
    split at h
    · cases h
    · rename_i f' a b hf
      cases hf
      split at h
      · rename_i cs1 ss1 e1 h1
        split at h
        · rename_i cs2 u ss2 h2
          cases h
          have hl := (mB ht hnt (Q := fun _ _ _ _ => True) h1 hc.left trivial).2
          refine an (mB ht hnt (Q := thenP (fun env nx H => W P c b env nx H Q) Q) h1 hc.left (qL ht hnt h2 hc.right fun e he hk => k e he fun q hq hqt => ?_)).1
          simp only [codeD,List.mem_append,not_or] at hq
          rw [hk q hq.2 hqt,hl q hq.1]
        · cases h
      · cases h
    · rename_i f' t' els hf
      cases hf
      split at h
      · rename_i htt
        have htt := Nat.eq_of_beq_eq_true htt
        subst htt
        split at h
        · rename_i b hl
          split at h
          · rename_i cs1 u ss1 h1
            cases h
            refine av hl (fun hb => ?_) (fun hb => ?_)
            · subst hb
              exact aw (k _ hl fun q hq hqt => rfl)
            · subst hb
              refine xW ?_ (qL ht hnt h1 (oU hc rfl) fun e he hk => k e he fun q hq hqt => ?_)
              · intro q p hq
                by_cases hqt : t' = q
                · subst hqt; rw [bQ] at hq; rw [hl]; exact hq
                · rw [bv _ _ hqt] at hq; exact hq
              · simp only [codeD,List.mem_append,not_or] at hq
                rw [hk q hq.2 hqt,bv _ _ (fun e => hqt e.symm)]
          · cases h
        · cases h
      · cases h
    · rename_i f' s ss0 id ops hf
      cases hf
      split at h
      · rename_i cs1 e1 n1 H1 h1
        split at h
        · rename_i u hu
          cases h
          obtain ⟨z1,z2⟩ := xGo_pure h1
          subst z1; subst z2
          exact bk (xGo_ok ht hnt h1 hc (bG (k _ hu fun q hq _ => fM h1 q hq)))
        · cases h
      · cases h
    · cases h
def wd (r : Option (List Prop × Bool × List (List XA))) (fr : Bool) : Option (List Prop × Bool) := match fr with
  | true => r.map fun r => (r.1,r.2.1)
  | false => none
theorem Cl (ht : TabOk P tab) (hnt : c.nt = nt) {Q : cH}{code b : Code}{env : aI}{nx : Nat}{H : ah} (t : Nat) (ss : List (List XA)) (cs : List Prop) (v : Bool) (h : wd (qM P tab nt t 400 ss code env nx H) ((codeD code).all fun d => Nat.beq d t || (look env d).isNone) = some (cs,v)) (hc : AllP cs)
    (k : W P c b ((t,.f (.v (.bool v))) :: env) nx H Q) : W P c (.seq code b) env nx H Q := by
  unfold wd at h
  split at h
  · rename_i hfr
    obtain ⟨⟨cs0,v0,s0⟩,h1,h2⟩ := Option.map_eq_some_iff.1 h
    cases h2
    refine an (qL ht hnt (Q := thenP (fun env nx H => W P c b env nx H Q) Q) h1 hc fun e he hk => ak (xW (E := (t,.f (.v (.bool v0))) :: env) (fun q p hq => ?_) k))
    by_cases hqt : t = q
    · subst hqt; rw [bQ] at hq; rw [he]; exact hq
    · rw [bv _ _ hqt] at hq
      rw [hk q (fun hm => ?_) (fun e => hqt e.symm)]
      · exact hq
      · have := List.all_eq_true.1 hfr q hm
        rw [hq] at this
        simp only [Option.isNone_some,Bool.or_false] at this
        exact hqt (Nat.eq_of_beq_eq_true this).symm
  · cases h
end
end Go.Proofs.YtlcmbkkimgdnmaaGreat.Pv
namespace Go.Proofs.YtlcmbkkimgdnmaaGreat
open Go Go.Proofs.YtlcmbkkimgdnmaaGreat.Pv
end Go.Proofs.YtlcmbkkimgdnmaaGreat
namespace Go.Proofs.YtlcmbkkimgdnmaaGreat.Pv
open Go
theorem qo {c : Ctx}{nx nt : Nat}{env : aI}{H : ah}{Q : cH}{ops : Array Oper}{rest : List Oper}{dst : Option Nat}{op : Op}{t : Nat}{p : String}{a : Array Edge} (hnt : c.nt = nt) (hd : dstOk nt dst = true) (h : stepOp Tryz.prog tab env nx H (fun pv nx' H' => R Tryz.prog c ops rest (putE dst pv env) nx' H' Q) op) : R Tryz.prog c ops (⟨dst,op,t,p,a,none⟩ :: rest) env nx H Q := oM aF hnt hd h
theorem qm {c : Ctx}{nx nt : Nat}{env : aI}{H : ah}{Q : cH}{ops : Array Oper}{rest : List Oper}{dst : Option Nat}{t : Nat}{p : String}{a : Array Edge}{x : Operand}{pv : PV} (hnt : c.nt = nt) (hd : dstOk nt dst = true) (h : ev env x = some pv) (k : R Tryz.prog c ops rest (putE dst pv env) nx H Q) : R Tryz.prog c ops (⟨dst,.move x,t,p,a,none⟩ :: rest) env nx H Q := oM aF hnt hd (d7 h k)
theorem qa {c : Ctx}{nx nt : Nat}{env : aI}{H : ah}{Q : cH}{ops : Array Oper}{rest : List Oper}{dst : Option Nat}{t : Nat}{p : String}{a : Array Edge}{x : Operand}{pv : PV} (hnt : c.nt = nt) (hd : dstOk nt dst = true) (h : ev env x = some pv) (k : R Tryz.prog c ops rest (putE dst pv env) nx H Q) : R Tryz.prog c ops (⟨dst,.assign x,t,p,a,none⟩ :: rest) env nx H Q := oM aF hnt hd (w8 h k)
theorem ry {c : Ctx}{nx nt : Nat}{env : aI}{H : ah}{Q : cH}{ops : Array Oper}{rest : List Oper}{dst : Option Nat}{op : Op}{t : Nat}{p : String}{a : Array Edge}{j d : Nat}{want b : Bool} (hnt : c.nt = nt) (hj : (ops[j]?).bind (·.dst) = some d) (hb : look env d = some (.f (.v (.bool b)))) (hd : dstOk nt dst = true) (e : b = want) (h : R Tryz.prog c ops (⟨dst,op,t,p,a,none⟩ :: rest) env nx H Q) : R Tryz.prog c ops (⟨dst,op,t,p,a,some (j,want)⟩ :: rest) env nx H Q := bS aF hnt hj hb hd (fun _ => h) (fun e2 => absurd (e.symm.trans e2) (by cases want <;> decide))
theorem rn {c : Ctx}{nx nt : Nat}{env : aI}{H : ah}{Q : cH}{ops : Array Oper}{rest : List Oper}{dst : Option Nat}{op : Op}{t : Nat}{p : String}{a : Array Edge}{j d : Nat}{want b : Bool} (hnt : c.nt = nt) (hj : (ops[j]?).bind (·.dst) = some d) (hb : look env d = some (.f (.v (.bool b)))) (hd : dstOk nt dst = true) (e : b = !want) (h : R Tryz.prog c ops rest (fQ dst env) nx H Q) : R Tryz.prog c ops (⟨dst,op,t,p,a,some (j,want)⟩ :: rest) env nx H Q := bS aF hnt hj hb hd (fun e2 => absurd (e2.symm.trans e) (by cases want <;> decide)) (fun _ => h)
theorem ru {c : Ctx}{nx nt : Nat}{env : aI}{H : ah}{Q : cH}{ops : Array Oper}{rest : List Oper}{dst : Option Nat}{op : Op}{t : Nat}{p : String}{a : Array Edge}{j d : Nat}{want : Bool} (hnt : c.nt = nt) (hj : (ops[j]?).bind (·.dst) = some d) (hb : look env d = some aZ) (hd : dstOk nt dst = true) (h : R Tryz.prog c ops rest (fQ dst env) nx H Q) : R Tryz.prog c ops (⟨dst,op,t,p,a,some (j,want)⟩ :: rest) env nx H Q := zl aF hnt hj hb hd h
theorem xp {c : Ctx}{nx nt : Nat}{env : aI}{H : ah}{Q : cH}{ops : Array Oper}{l : List Oper} (hnt : c.nt = nt) (n : Nat) (us : List XA) (cs : List Prop) (D : aI) (k : R Tryz.prog c ops (l.drop n) (D ++ env) nx H Q) (h : (lL (dV Tryz.prog false tab nt ops 600 us (l.take n) env nx H) (D.map Prod.fst) (nL env (l.take n))).map (fun r => (r.1,r.2.1)) = some (cs,D) := by kernel_rfl) (hc : AllP cs := by exact trivial) : R Tryz.prog c ops l env nx H Q := CG aF hnt n us cs D h hc k
theorem xm {c : Ctx}{nx nt : Nat}{env : aI}{H : ah}{Q : cH}{ops : Array Oper}{l : List Oper} (hnt : c.nt = nt) (n : Nat) (us : List XA) (cs : List Prop) (D : aI) (nx' : Nat) (H' : ah) (k : R Tryz.prog c ops (l.drop n) (D ++ env) nx' H' Q) (h : lL (dV Tryz.prog true tab nt ops 600 us (l.take n) env nx H) (D.map Prod.fst) (nL env (l.take n)) = some (cs,D,nx',H') := by kernel_rfl) (hc : AllP cs := by exact trivial) : R Tryz.prog c ops l env nx H Q := CH aF hnt n us cs D nx' H' h hc k
theorem xa {c : Ctx}{nx nt : Nat}{env : aI}{H : ah}{Q : cH}{ops : Array Oper}{l : List Oper} (hnt : c.nt = nt) (n : Nat) (us : List XA) (cs : List Prop) (E : aI) (nx' : Nat) (H' : ah) (k : R Tryz.prog c ops (l.drop n) E nx' H' Q) (h : lL (dV Tryz.prog true tab nt ops 600 us (l.take n) env nx H) (E.map Prod.fst) true = some (cs,E,nx',H') := by kernel_rfl) (hc : AllP cs := by exact trivial) : R Tryz.prog c ops l env nx H Q := CJ aF hnt n us cs E nx' H' h hc k
theorem xo {c : Ctx}{nx nt : Nat}{env : aI}{H : ah}{Q : cH}{code b : Code} (hnt : c.nt = nt) (t : Nat) (ss : List (List XA)) (cs : List Prop) (v : Bool) (k : W Tryz.prog c b ((t,.f (.v (.bool v))) :: env) nx H Q) (h : wd (qM Tryz.prog tab nt t 400 ss code env nx H) ((codeD code).all fun d => Nat.beq d t || (look env d).isNone) = some (cs,v) := by kernel_rfl) (hc : AllP cs := by exact trivial) : W Tryz.prog c (.seq code b) env nx H Q := Cl aF hnt t ss cs v h hc k
theorem ae {c : Ctx}{nx nt : Nat}{env : aI}{H : ah}{Q : cH}{F : aI → Nat → ah → Prop}{ops : Array Oper}{dst : Option Nat}{x : Operand}{t : Nat}{p : String}{a : Array Edge}{pv : PV} (hnt : c.nt = nt) (hd : dstOk nt dst = true) (h : ev env x = some pv) (k : F (putE dst pv env) nx H) : R Tryz.prog c ops [⟨dst,.assign x,t,p,a,none⟩] env nx H (thenP F Q) := qa hnt hd h (re k)
theorem cK {c : Ctx}{ops : Array Oper}{id nt nx : Nat}{Q : cH}{env : aI}{H : ah} (hnt : c.nt = nt) (h : dM Tryz.prog tab ops (wg ops) ops.toList [] env nx H (fun cs env' N H' => j8 nt nx N env H cs = true ∧ R Tryz.prog c ops [] env' N H' Q)) (hB : uD ops (wg ops) = true := by kernel_rfl) : W Tryz.prog c (.region id ops true) env nx H Q := xS aF Ca hnt (wg ops) hB h
theorem xd {ops : Array Oper}{B : List (List Nat)}{l : List Oper}{acc : List Cert}{env : aI}{nx : Nat}{H : ah}{C : List Cert → aI → Nat → ah → Prop} (n : Nat) (s : List XD) (cs : List Prop) (nx' : Nat) (H' : ah) (k : dM Tryz.prog tab ops B (l.drop n) (Ai (f7 Tryz.prog tab ops B 600 s l acc env nx H)) (Ah (f7 Tryz.prog tab ops B 600 s l acc env nx H)) nx' H' C) (h : (match f7 Tryz.prog tab ops B 600 s l acc env nx H with|some (cs,_,_,nx',H') => some (cs,nx',H',iI s)|none => none) = some (cs,nx',H',n) := by kernel_rfl) (hc : AllP cs := by exact trivial) : dM Tryz.prog tab ops B l acc env nx H C := Cg n s cs nx' H' h hc k
theorem xq {ops : Array Oper}{B : List (List Nat)}{l : List Oper}{acc : List Cert}{env : aI}{nx : Nat}{H : ah}{C : List Cert → aI → Nat → ah → Prop} (n : Nat) (s : List XD) (cs : List Prop) (k : dM Tryz.prog tab ops B (l.drop n) (Ai (f7 Tryz.prog tab ops B 600 s l acc env nx H)) (Ah (f7 Tryz.prog tab ops B 600 s l acc env nx H)) nx H C) (h : (match f7 Tryz.prog tab ops B 600 s l acc env nx H with|some (cs,_,_,nx',H') => some (cs,nx',H',iI s)|none => none) = some (cs,nx,H,n) := by kernel_rfl) (hc : AllP cs := by exact trivial) : dM Tryz.prog tab ops B l acc env nx H C := Cg n s cs nx H h hc k
theorem bU {ops : Array Oper}{B : List (List Nat)}{rest : List Oper}{acc : List Cert}{env : aI}{nx nx1 : Nat}{H : ah}{C : List Cert → aI → Nat → ah → Prop}{dst : Option Nat}{op : Op}{t : Nat}{p : String}{a : Array Edge}{pv : PV}{g : Option (Nat × Bool)} (E0 : aI) (hR hT H1 Hn : ah) (h : stepOp Tryz.prog tab E0 nx (hR ++ hT) (fun a b d => a = pv ∧ b = nx1 ∧ d = H1) op) (k : dM Tryz.prog tab ops B rest (⟨⟨dst,op,t,p,a,g⟩,some pv,E0,hR,hT,drops H1 (hR.map Prod.fst),nx,nx1,B.getD acc.length []⟩ :: acc) (putE dst pv env) nx1 Hn C) (hE : cutE ops ⟨dst,op,t,p,a,g⟩ env = E0 := by kernel_rfl) (h1 : sel H (hR.map Prod.fst) = hR := by kernel_rfl) (h2 : sel H (hT.map Prod.fst) = hT := by kernel_rfl) (hle : Nat.ble nx nx1 = true := by kernel_rfl) (e2 : drops H1 (hR.map Prod.fst) ++ drops H (hT.map Prod.fst) = Hn := by kernel_rfl) (hs : sameH H1 hR := by exact trivial) : lh Tryz.prog tab ops B ⟨dst,op,t,p,a,g⟩ rest acc env nx H C := Cf E0 hR hT H1 Hn h k hE h1 h2 hle e2 hs
theorem xk {ops : Array Oper}{B : List (List Nat)}{rest : List Oper}{acc : List Cert}{env : aI}{nx nx1 : Nat}{H : ah}{C : List Cert → aI → Nat → ah → Prop}{dst : Option Nat}{op : Op}{t : Nat}{p : String}{a : Array Edge}{pv : PV} (E0 : aI) (hR hT H1 Hn : ah) (h : stepOp Tryz.prog tab E0 nx (hR ++ hT) (fun a b d => a = pv ∧ b = nx1 ∧ d = H1) op) (k : dM Tryz.prog tab ops B rest (⟨⟨dst,op,t,p,a,none⟩,some pv,E0,hR,hT,drops H1 (hR.map Prod.fst),nx,nx1,B.getD acc.length []⟩ :: acc) (putE dst pv env) nx1 Hn C) (hE : cutE ops ⟨dst,op,t,p,a,none⟩ env = E0 := by kernel_rfl) (h1 : sel H (hR.map Prod.fst) = hR := by kernel_rfl) (h2 : sel H (hT.map Prod.fst) = hT := by kernel_rfl) (hle : Nat.ble nx nx1 = true := by kernel_rfl) (e2 : drops H1 (hR.map Prod.fst) ++ drops H (hT.map Prod.fst) = Hn := by kernel_rfl) (hs : sameH H1 hR := by exact trivial) : dM Tryz.prog tab ops B (⟨dst,op,t,p,a,none⟩ :: rest) acc env nx H C := CB (Cf E0 hR hT H1 Hn h k hE h1 h2 hle e2 hs)
theorem xi {ops : Array Oper}{B : List (List Nat)}{rest : List Oper}{acc : List Cert}{env : aI}{nx : Nat}{H : ah}{C : List Cert → aI → Nat → ah → Prop}{dst : Option Nat}{op : Op}{t : Nat}{p : String}{a : Array Edge}{j : Nat}{want b : Bool} (d : Nat) (E0 : aI) (hb : look E0 d = some (.f (.v (.bool b)))) (h1 : b = want → lh Tryz.prog tab ops B ⟨dst,op,t,p,a,some (j,want)⟩ rest acc env nx H C) (h2 : b = (!want) → dM Tryz.prog tab ops B rest (⟨⟨dst,op,t,p,a,some (j,want)⟩,some aZ,E0,[],[],[],nx,nx,B.getD acc.length []⟩ :: acc) (fQ dst env) nx H C) (hj : (ops[j]?).bind (·.dst) = some d := by kernel_rfl) (hE : cutE ops ⟨dst,op,t,p,a,some (j,want)⟩ env = E0 := by kernel_rfl) : dM Tryz.prog tab ops B (⟨dst,op,t,p,a,some (j,want)⟩ :: rest) acc env nx H C := Aj E0 hb h1 h2 hj hE
theorem cw {ops : Array Oper}{B : List (List Nat)}{rest : List Oper}{acc : List Cert}{env : aI}{nx : Nat}{H : ah}{C : List Cert → aI → Nat → ah → Prop}{dst : Option Nat}{op : Op}{t : Nat}{p : String}{a : Array Edge}{j : Nat}{want b : Bool} (d : Nat) (E0 : aI) (hb : look E0 d = some (.f (.v (.bool b)))) (e : b = want) (h1 : lh Tryz.prog tab ops B ⟨dst,op,t,p,a,some (j,want)⟩ rest acc env nx H C) (hj : (ops[j]?).bind (·.dst) = some d := by kernel_rfl) (hE : cutE ops ⟨dst,op,t,p,a,some (j,want)⟩ env = E0 := by kernel_rfl) : dM Tryz.prog tab ops B (⟨dst,op,t,p,a,some (j,want)⟩ :: rest) acc env nx H C := Aj E0 hb (fun _ => h1) (fun e2 => absurd (e.symm.trans e2) (by cases want <;> decide)) hj hE
theorem dj {ops : Array Oper}{B : List (List Nat)}{rest : List Oper}{acc : List Cert}{env : aI}{nx : Nat}{H : ah}{C : List Cert → aI → Nat → ah → Prop}{dst : Option Nat}{op : Op}{t : Nat}{p : String}{a : Array Edge}{j : Nat}{want b : Bool} (d : Nat) (E0 : aI) (hb : look E0 d = some (.f (.v (.bool b)))) (e : b = !want) (h2 : dM Tryz.prog tab ops B rest (⟨⟨dst,op,t,p,a,some (j,want)⟩,some aZ,E0,[],[],[],nx,nx,B.getD acc.length []⟩ :: acc) (fQ dst env) nx H C) (hj : (ops[j]?).bind (·.dst) = some d := by kernel_rfl) (hE : cutE ops ⟨dst,op,t,p,a,some (j,want)⟩ env = E0 := by kernel_rfl) : dM Tryz.prog tab ops B (⟨dst,op,t,p,a,some (j,want)⟩ :: rest) acc env nx H C := Aj E0 hb (fun e2 => absurd (e2.symm.trans e) (by cases want <;> decide)) (fun _ => h2) hj hE
theorem xe {c : Ctx}{Q : cH}{nt nx0 N : Nat}{ops : Array Oper}{B : List (List Nat)}{env0 : aI}{H0 H' : ah}{acc : List Cert}{env : aI} (E : aI) (k : R Tryz.prog c ops [] E N H' Q) (hp : j8 nt nx0 N env0 H0 acc.reverse = true := by kernel_rfl) (hE : sel env (E.map Prod.fst) = E := by kernel_rfl) : dM Tryz.prog tab ops B [] acc env N H' (fun cs env' N H' => j8 nt nx0 N env0 H0 cs = true ∧ R Tryz.prog c ops [] env' N H' Q) := CI E k hp hE
end Go.Proofs.YtlcmbkkimgdnmaaGreat.Pv
namespace Go.Proofs.YtlcmbkkimgdnmaaGreat
open Go Go.Proofs.YtlcmbkkimgdnmaaGreat.Pv
structure TWindow where
  space : Int
  virtual : Int
  physical : Int
  count : Int
  deriving DecidableEq,Inhabited
abbrev aR (x : TWindow) : FV := .agg [ay x.space,ay x.virtual,ay x.physical,ay x.count]
abbrev eT (x : TWindow) : List PV := [pI x.space,pI x.virtual,pI x.physical,pI x.count]
structure TSlot where
  at_ : Int
  len_ : Int
  deriving DecidableEq,Inhabited
abbrev gN (x : TSlot) : FV := .agg [ay x.at_,ay x.len_]
structure TTenant where
  unit : Int
  functions : Int
  queue : Int
  windows : List TWindow
  slots : List TSlot
  deriving DecidableEq,Inhabited
abbrev cn (x : TTenant) : FV := .agg [ay x.unit,(fun x => FV.v (.int .u32 x)) x.functions,ay x.queue,(jX 4 aR) x.windows,(jX 2 gN) x.slots]
abbrev fc (x : TTenant) : List PV := [pI x.unit,pK .u32 x.functions,pI x.queue,pS 4 false aR x.windows,pS 2 false gN x.slots]
structure TRequest where
  fn : Int
  at_ : Int
  count : Int
  wAt : Int
  sub : Int
  bits : List Bool
  vals : List UInt16
  and_ : UInt16
  or_ : UInt16
  deriving DecidableEq,Inhabited
abbrev bx (x : TRequest) : FV := .agg [ay x.fn,ay x.at_,ay x.count,ay x.wAt,ay x.sub,(jX 1 ar) x.bits,(jX 1 aj) x.vals,aj x.and_,aj x.or_]
abbrev cd (x : TRequest) : List PV := [pI x.fn,pI x.at_,pI x.count,pI x.wAt,pI x.sub,pS 1 false ar x.bits,pS 1 false aj x.vals,au x.and_,au x.or_]
structure TTape where
  l : List Int
  at_ : Int
  deriving DecidableEq,Inhabited
structure TReply where
  fn : Int
  code : Int
  at_ : Int
  count : Int
  sub : Int
  bits : List Bool
  vals : List UInt16
  and_ : UInt16
  or_ : UInt16
  data : List UInt8
  deriving DecidableEq,Inhabited
abbrev aK (x : TReply) : FV := .agg [ay x.fn,ay x.code,ay x.at_,ay x.count,ay x.sub,(jX 1 ar) x.bits,(jX 1 aj) x.vals,aj x.and_,aj x.or_,(jX 1 az) x.data]
abbrev bm (x : TReply) : List PV := [pI x.fn,pI x.code,pI x.at_,pI x.count,pI x.sub,pS 1 false ar x.bits,pS 1 false aj x.vals,au x.and_,au x.or_,pS 1 false az x.data]
structure TTable where
  frame : Int
  tenants : List TTenant
  deriving DecidableEq,Inhabited
abbrev vL (x : TTable) : FV := .agg [ay x.frame,(jX 5 cn) x.tenants]
abbrev vU (x : TTable) : List PV := [pI x.frame,pS 5 false cn x.tenants]
structure TPart where
  request : TRequest
  write : Bool
  deriving DecidableEq,Inhabited
abbrev bJ (x : TPart) : FV := .agg [ay x.request.fn,ay x.request.at_,ay x.request.count,ay x.request.wAt,ay x.request.sub,(jX 1 ar) x.request.bits,(jX 1 aj) x.request.vals,aj x.request.and_,aj x.request.or_,ar x.write]
abbrev uC (x : TPart) : List PV := [pI x.request.fn,pI x.request.at_,pI x.request.count,pI x.request.wAt,pI x.request.sub,pS 1 false ar x.request.bits,pS 1 false aj x.request.vals,au x.request.and_,au x.request.or_,pB x.write]
structure TPiece where
  at_ : Int
  physical : Int
  count : Int
  deriving DecidableEq,Inhabited
abbrev aU (x : TPiece) : FV := .agg [ay x.at_,ay x.physical,ay x.count]
abbrev fG (x : TPiece) : List PV := [pI x.at_,pI x.physical,pI x.count]
structure TSpan where
  at_ : Int
  count : Int
  deriving DecidableEq,Inhabited
abbrev aQ (x : TSpan) : FV := .agg [ay x.at_,ay x.count]
abbrev cI (x : TSpan) : List PV := [pI x.at_,pI x.count]
def xZ {α : Type} (f : α → α) : Nat → α → α
  | 0,a => a
  | n + 1,a => f (xZ f n a)
def BB (n : UInt16) : UInt16 := if n &&& 1 = 1 then (n >>> UInt16.ofNat 1) ^^^ 0xA001 else n >>> UInt16.ofNat 1
def zT (n : UInt16) (c : UInt8) : UInt16 := xZ BB 8 (n ^^^ c.toUInt16)
def vR (l : List UInt8) : UInt16 := l.foldl zT 0xFFFF
def x6 (l : List UInt8) : List UInt8 := l ++ [(vR l).toUInt8,(vR l >>> UInt16.ofNat 8).toUInt8]
@[simp] theorem Bc (l : List UInt8) : (x6 l).length = l.length + 2 := by simp [x6]
def dW (n lo hi : Int) : Int := if lo ≤ n ∧ n ≤ hi then n else lo + (if n.tmod (hi - lo + 1) < 0 then n.tmod (hi - lo + 1) + hi - lo + 1 else n.tmod (hi - lo + 1))
theorem jQ (n : Int) {m : Int} (h : 0 < m) : -m < n.tmod m ∧ n.tmod m < m := by
  have h1 := Int.tmod_lt_of_pos n h
  have h2 := Int.tmod_lt_of_pos (-n) h
  rw [Int.neg_tmod] at h2
  exact ⟨by omega,h1⟩
theorem ox (n : Int) {lo hi : Int} (h : lo ≤ hi) : lo ≤ dW n lo hi ∧ dW n lo hi ≤ hi := by
  have := jQ n (m := hi - lo + 1) (by omega)
  unfold dW
  split
  · assumption
  · split <;> omega
def Cj (i : Nat) : List UInt8 := (List.range i).map fun j => UInt8.ofNat (j * j + 3)
@[simp] theorem Ce (i : Nat) : (Cj i).length = i := by simp [Cj]
set_option maxRecDepth 10000
set_option maxHeartbeats 1000000
theorem Z {α : Sort _}{a : α} : a = a := rfl
theorem eZ (s : List Bool) (cl_s : Bool)  :
    T Tryz.prog 50 [pS 1 cl_s ar s] 0 [] (Ret (pS 1 true ar s) 0 []) := by
 refine bn aF (n := 9) (rs := [.tmp 2]) Tryz.func50 Z Z Z Z (nb Z) ?_
 intro c N hk
 refine sr (ae N Z Z (sr (xp N 5 [.o 2,.c (pN s.length),.o 1,.c (pN s.length)] [cC ar s,cC ar s] [(3,pS 1 cl_s ar s),(5,pN s.length),(7,pN s.length)] ?_ (hc := ⟨lenC_ok _ _,lenC_ok _ _,trivial⟩))))
 refine qo N Z (kC (f := ar) (l := s) bT Z dE ⟨Z,by decide⟩ Z (cD Z (by omega)) (cD Z (by omega)) ?_)
 exact ae N Z Z (w_ret fp)
theorem eH (s : List UInt16) (cl_s : Bool)  :
    T Tryz.prog 51 [pS 1 cl_s aj s] 0 [] (Ret (pS 1 true aj s) 0 []) := by
 refine bn aF (n := 9) (rs := [.tmp 2]) Tryz.func51 Z Z Z Z (nb Z) ?_
 intro c N hk
 refine sr (ae N Z Z (sr (xp N 5 [.o 2,.c (pN s.length),.o 1,.c (pN s.length)] [cC aj s,cC aj s] [(3,pS 1 cl_s aj s),(5,pN s.length),(7,pN s.length)] ?_ (hc := ⟨lenC_ok _ _,lenC_ok _ _,trivial⟩))))
 refine qo N Z (kC (f := aj) (l := s) bf Z bE ⟨Z,by decide⟩ Z (cD Z (by omega)) (cD Z (by omega)) ?_)
 exact ae N Z Z (w_ret fp)
theorem gD (s : List TPart) (cl_s : Bool)  :
    T Tryz.prog 52 [pS 10 cl_s bJ s] 0 [] (Ret (pS 10 true bJ s) 0 []) := by
 refine bn aF (n := 9) (rs := [.tmp 2]) Tryz.func52 Z Z Z Z (nb Z) ?_
 intro c N hk
 refine sr (ae N Z Z (sr (xp N 5 [.o 2,.c (pN s.length),.o 1,.c (pN s.length)] [cC bJ s,cC bJ s] [(3,pS 10 cl_s bJ s),(5,pN s.length),(7,pN s.length)] ?_ (hc := ⟨lenC_ok _ _,lenC_ok _ _,trivial⟩))))
 refine qo N Z (kC (f := bJ) (l := s) fC Z fU ⟨Z,by decide⟩ Z (cD Z (by omega)) (cD Z (by omega)) ?_)
 exact ae N Z Z (w_ret fp)
theorem fS (s : List TPiece) (cl_s : Bool)  :
    T Tryz.prog 90 [pS 3 cl_s aU s] 0 [] (Ret (pS 3 true aU s) 0 []) := by
 refine bn aF (n := 9) (rs := [.tmp 2]) Tryz.func90 Z Z Z Z (nb Z) ?_
 intro c N hk
 refine sr (ae N Z Z (sr (xp N 5 [.o 2,.c (pN s.length),.o 1,.c (pN s.length)] [cC aU s,cC aU s] [(3,pS 3 cl_s aU s),(5,pN s.length),(7,pN s.length)] ?_ (hc := ⟨lenC_ok _ _,lenC_ok _ _,trivial⟩))))
 refine qo N Z (kC (f := aU) (l := s) fT Z gU ⟨Z,by decide⟩ Z (cD Z (by omega)) (cD Z (by omega)) ?_)
 exact ae N Z Z (w_ret fp)
theorem gC (s : List TSpan) (cl_s : Bool)  :
    T Tryz.prog 100 [pS 2 cl_s aQ s] 0 [] (Ret (pS 2 true aQ s) 0 []) := by
 refine bn aF (n := 9) (rs := [.tmp 2]) Tryz.func100 Z Z Z Z (nb Z) ?_
 intro c N hk
 refine sr (ae N Z Z (sr (xp N 5 [.o 2,.c (pN s.length),.o 1,.c (pN s.length)] [cC aQ s,cC aQ s] [(3,pS 2 cl_s aQ s),(5,pN s.length),(7,pN s.length)] ?_ (hc := ⟨lenC_ok _ _,lenC_ok _ _,trivial⟩))))
 refine qo N Z (kC (f := aQ) (l := s) ei Z db ⟨Z,by decide⟩ Z (cD Z (by omega)) (cD Z (by omega)) ?_)
 exact ae N Z Z (w_ret fp)
theorem eV (s : List Bool) (cl_s : Bool) (hs : s.length ≤ 140737488355328) :
    T Tryz.prog 48 [pS 1 cl_s ar s] 0 [] (Ret (PV.ref 0 0 none) 1 [(0,oB true 1 ar s)]) := by
 refine bn aF (n := 8) (rs := [.tmp 2]) Tryz.func48 Z Z Z Z (nb Z) ?_
 intro c N hk
 refine sr (ae N Z Z (an (sr (qm N Z Z (qo N Z (td bT Z Z (by trivial) (fun bn1 hbn1 => ?_)))))))
 let Y : ah := [(0,oB true 1 ar s)]
 refine re (av Z (fun c1 => ?_) (fun c1 => ?_))
 ·have c1_ := c1
  try simp only [sB] at c1
  have e : s = [] := Classical.byContradiction fun h => by rw [hbn1 (by simp [h])] at c1_; cases c1_
  refine sr (ae N Z Z (dD (s := 2) (sz := 1) Z (eN (H' := Y) (congrArg (fun z => ([(0,oB true 1 ar z)] : ah)) (show ([] : List Bool) = s by rw [e])) (w_ret (af ?_)))))
  exact bB (nx1 := 1) (H1 := Y) [(0,0)] (ret_tmp Z ret_nil) Z (by decide) ⟨⟨_,_,Z,Z,Z,Z⟩,trivial⟩ (by decide) Z ⟨Z,Z,Z⟩
 have c1_ := c1
 try simp only [sB] at c1
 refine aw (ak (sr (qo N Z (bM (f := ar) ([] : List Bool) bT Z dE ⟨Z,by decide⟩ (by decide) Z Z Z Z ?_))))
 refine qm N Z Z (qo N Z (bZ (f := ar) (l := ([] : List Bool)) (xs := s) bT Z dE ⟨Z,by decide,by decide⟩ (da bT Z (cf (f := ar) Z)) Z Z (by (simp; omega)) ?_))
 refine qa N Z Z (aE [(2,PV.ref 1 0 none)] [(1,oB true 1 ar s)] 2 ⟨Z,trivial⟩ Z Z (re (w_ret ?_)))
 exact bB (nx1 := 1) (H1 := Y) [(0,1)] (ret_tmp Z ret_nil) Z (by decide) ⟨⟨_,_,Z,Z,Z,Z⟩,trivial⟩ (by decide) Z ⟨Z,Z,Z⟩
theorem dC (s : List UInt16) (cl_s : Bool) (hs : s.length * 2 ≤ 140737488355328) :
    T Tryz.prog 49 [pS 1 cl_s aj s] 0 [] (Ret (PV.ref 0 0 none) 1 [(0,oB true 1 aj s)]) := by
 refine bn aF (n := 8) (rs := [.tmp 2]) Tryz.func49 Z Z Z Z (nb Z) ?_
 intro c N hk
 refine sr (ae N Z Z (an (sr (qm N Z Z (qo N Z (td bf Z Z (by trivial) (fun bn1 hbn1 => ?_)))))))
 let Y : ah := [(0,oB true 1 aj s)]
 refine re (av Z (fun c1 => ?_) (fun c1 => ?_))
 ·have c1_ := c1
  try simp only [sB] at c1
  have e : s = [] := Classical.byContradiction fun h => by rw [hbn1 (by simp [h])] at c1_; cases c1_
  refine sr (ae N Z Z (dD (s := 2) (sz := 1) Z (eN (H' := Y) (congrArg (fun z => ([(0,oB true 1 aj z)] : ah)) (show ([] : List UInt16) = s by rw [e])) (w_ret (af ?_)))))
  exact bB (nx1 := 1) (H1 := Y) [(0,0)] (ret_tmp Z ret_nil) Z (by decide) ⟨⟨_,_,Z,Z,Z,Z⟩,trivial⟩ (by decide) Z ⟨Z,Z,Z⟩
 have c1_ := c1
 try simp only [sB] at c1
 refine aw (ak (sr (qo N Z (bM (f := aj) ([] : List UInt16) bf Z bE ⟨Z,by decide⟩ (by decide) Z Z Z Z ?_))))
 refine qm N Z Z (qo N Z (bZ (f := aj) (l := ([] : List UInt16)) (xs := s) bf Z bE ⟨Z,by decide,by decide⟩ (da bf Z (cf (f := aj) Z)) Z Z (by (simp; omega)) ?_))
 refine qa N Z Z (aE [(2,PV.ref 1 0 none)] [(1,oB true 1 aj s)] 2 ⟨Z,trivial⟩ Z Z (re (w_ret ?_)))
 exact bB (nx1 := 1) (H1 := Y) [(0,1)] (ret_tmp Z ret_nil) Z (by decide) ⟨⟨_,_,Z,Z,Z,Z⟩,trivial⟩ (by decide) Z ⟨Z,Z,Z⟩
theorem w_slices_Equal_bool_bool (s : List Bool) (cl_s : Bool) (m : List Bool) (cl_m : Bool) (hs : s.length ≤ 140737488355328) :
    T Tryz.prog 72 [pS 1 cl_s ar s,pS 1 cl_m ar m] 0 [] (Ret (pB (decide (s = m))) 0 []) := by
 refine bn aF (n := 26) (rs := [.tmp 4]) Tryz.func72 Z Z Z Z (nb Z) ?_
 intro c N hk
 refine sr (ae N Z Z (an (sr (xp N 5 [.o 1,.c (pN s.length),.o 1,.c (pN m.length),.o 1] [cC ar s,cC ar m] [(10,pB (!decide (((s.length : Nat) : Int) = ((m.length : Nat) : Int))))] ?_ (hc := ⟨lenC_ok _ _,lenC_ok _ _,trivial⟩)))))
 refine re (av Z (fun c1 => ?_) (fun c1 => ?_))
 ·try simp only [sB] at c1
  have hne : s ≠ m := fun e => by subst e; simp at c1
  exact sr (ae N Z Z (aq (s := 4) Z (congrArg pB (show false = (decide (s = m)) by simp [hne])) (w_ret (af fp))))
 try simp only [sB] at c1
 have hlm : s.length = m.length := by omega
 refine aw (ak (an (sr (qm N Z Z (qo N Z (ca (l := s) bT Z (cf (f := ar) Z) ?_))))))
 refine qm N Z Z (re (aP (gu (fun (i : Nat) => i ≤ s.length ∧ s.take i = m.take i) (fun (i : Nat) => [(0,pS 1 cl_s ar s),(1,pS 1 cl_m ar m),(12,pN s.length),(13,pN i)]) 0 (fun (i : Nat) => []) (fun (i : Nat) => s.length - i) (0) ?_ ⟨[],Z,⟨⟨_,Z,Z,Z⟩,⟨_,Z,Z,Z⟩,⟨_,Z,Z,Z⟩,⟨_,Z,Z,Z⟩,trivial⟩,trivial,by rw [hk]; decide⟩ ?_)))
 · exact ⟨Nat.zero_le _,by simp⟩
 ·intro i hI
  obtain ⟨hi,ht⟩ := hI
  refine sr (qo N Z (cZ Z Z ?_))
  refine re (an (av Z (fun c2 => ?_) (fun c2 => ?_)))
  ·try simp only [sB] at c2
   refine aw (ak (an (aP (sr (xp N 2 [.o 2] [] [(5,pN i)] ?_)))))
   refine re (an (cK N (xq 2 [.o 2] [] ?_)))
   obtain ⟨e1,he1⟩ := bl s (i := i) (by omega)
   refine xk [(16,pS 1 cl_s ar s),(17,pN i)] [] [] [] [] (cA (q := i) (b := e1) (f := ar) bT Z dE Z Z (by omega) Z he1 ⟨Z,Z,Z⟩) (xq 3 [.o 3] [] ?_)
   obtain ⟨e2,he2⟩ := bl m (i := i) (by omega)
   refine xk [(20,pS 1 cl_m ar m),(21,pN i)] [] [] [] [] (cA (q := i) (b := e2) (f := ar) bT Z dE Z Z (by omega) Z he2 ⟨Z,Z,Z⟩) (xq 2 [.o 2] [] (xe [(0,pS 1 cl_s ar s),(1,pS 1 cl_m ar m),(12,pN s.length),(13,pN i),(24,pB (!(e1 == e2)))] (re (av Z (fun c3 => ?_) (fun c3 => ?_)))))
   ·try simp only [sB] at c3
    have hne : s ≠ m := fun e => by subst e; rw [he1] at he2; cases he2; simp at c3
    exact sr (ae N Z Z (aq (s := 4) Z (congrArg pB (show false = (decide (s = m)) by simp [hne])) (w_ret (am (af (af (am (af fp))))))))
   try simp only [sB] at c3
   have c3 : e1 = e2 := by simpa using c3
   refine aw (aG (ak (bk (qo N Z (cm (a := i) (b := 1) Z Z (by omega) (by omega) (by omega) ?_)))))
   refine qm N Z Z (re (⟨(i + 1), ?_, ?_,⟨[],Z,⟨⟨_,Z,Z,Z⟩,⟨_,Z,Z,Z⟩,⟨_,Z,Z,Z⟩,⟨_,Z,Z,Z⟩,trivial⟩,trivial,by rw [hk]; decide⟩⟩))
   ·refine ⟨by omega, ?_⟩
    rw [List.take_add_one,List.take_add_one,he1,he2,ht,c3]
   · omega
  try simp only [sB] at c2
  have h1 : s.take i = s := List.take_of_length_le (by omega)
  have h2 : m.take i = m := List.take_of_length_le (by omega)
  have he : s = m := by rw [← h1,← h2,ht]
  exact cG (aL (aL (bq (ak (sr (ae N Z Z (aq (s := 4) Z (congrArg pB (show true = (decide (s = m)) by simp [he])) (w_ret fp))))))))
theorem w_slices_Equal_uint16_uint16 (s : List UInt16) (cl_s : Bool) (m : List UInt16) (cl_m : Bool) (hs : s.length ≤ 140737488355328) :
    T Tryz.prog 73 [pS 1 cl_s aj s,pS 1 cl_m aj m] 0 [] (Ret (pB (decide (s = m))) 0 []) := by
 refine bn aF (n := 26) (rs := [.tmp 4]) Tryz.func73 Z Z Z Z (nb Z) ?_
 intro c N hk
 refine sr (ae N Z Z (an (sr (xp N 5 [.o 1,.c (pN s.length),.o 1,.c (pN m.length),.o 1] [cC aj s,cC aj m] [(10,pB (!decide (((s.length : Nat) : Int) = ((m.length : Nat) : Int))))] ?_ (hc := ⟨lenC_ok _ _,lenC_ok _ _,trivial⟩)))))
 refine re (av Z (fun c1 => ?_) (fun c1 => ?_))
 ·try simp only [sB] at c1
  have hne : s ≠ m := fun e => by subst e; simp at c1
  exact sr (ae N Z Z (aq (s := 4) Z (congrArg pB (show false = (decide (s = m)) by simp [hne])) (w_ret (af fp))))
 try simp only [sB] at c1
 have hlm : s.length = m.length := by omega
 refine aw (ak (an (sr (qm N Z Z (qo N Z (ca (l := s) bf Z (cf (f := aj) Z) ?_))))))
 refine qm N Z Z (re (aP (gu (fun (i : Nat) => i ≤ s.length ∧ s.take i = m.take i) (fun (i : Nat) => [(0,pS 1 cl_s aj s),(1,pS 1 cl_m aj m),(12,pN s.length),(13,pN i)]) 0 (fun (i : Nat) => []) (fun (i : Nat) => s.length - i) (0) ?_ ⟨[],Z,⟨⟨_,Z,Z,Z⟩,⟨_,Z,Z,Z⟩,⟨_,Z,Z,Z⟩,⟨_,Z,Z,Z⟩,trivial⟩,trivial,by rw [hk]; decide⟩ ?_)))
 · exact ⟨Nat.zero_le _,by simp⟩
 ·intro i hI
  obtain ⟨hi,ht⟩ := hI
  refine sr (qo N Z (cZ Z Z ?_))
  refine re (an (av Z (fun c2 => ?_) (fun c2 => ?_)))
  ·try simp only [sB] at c2
   refine aw (ak (an (aP (sr (xp N 2 [.o 2] [] [(5,pN i)] ?_)))))
   refine re (an (cK N (xq 2 [.o 2] [] ?_)))
   obtain ⟨e1,he1⟩ := bl s (i := i) (by omega)
   refine xk [(16,pS 1 cl_s aj s),(17,pN i)] [] [] [] [] (cA (q := i) (b := e1) (f := aj) bf Z bE Z Z (by omega) Z he1 ⟨Z,Z,Z⟩) (xq 3 [.o 3] [] ?_)
   obtain ⟨e2,he2⟩ := bl m (i := i) (by omega)
   refine xk [(20,pS 1 cl_m aj m),(21,pN i)] [] [] [] [] (cA (q := i) (b := e2) (f := aj) bf Z bE Z Z (by omega) Z he2 ⟨Z,Z,Z⟩) (xq 2 [.o 1,.c (pB (!decide (e1 = e2)))] [qC e1 e2] ?_ (hc := ⟨nk _ _,trivial⟩))
   refine xe [(0,pS 1 cl_s aj s),(1,pS 1 cl_m aj m),(12,pN s.length),(13,pN i),(24,pB (!decide (e1 = e2)))] (re (av Z (fun c3 => ?_) (fun c3 => ?_)))
   ·try simp only [sB] at c3
    have hne : s ≠ m := fun e => by subst e; rw [he1] at he2; cases he2; simp at c3
    exact sr (ae N Z Z (aq (s := 4) Z (congrArg pB (show false = (decide (s = m)) by simp [hne])) (w_ret (am (af (af (am (af fp))))))))
   try simp only [sB] at c3
   have c3 : e1 = e2 := by simpa using c3
   refine aw (aG (ak (bk (qo N Z (cm (a := i) (b := 1) Z Z (by omega) (by omega) (by omega) ?_)))))
   refine qm N Z Z (re (⟨(i + 1), ?_, ?_,⟨[],Z,⟨⟨_,Z,Z,Z⟩,⟨_,Z,Z,Z⟩,⟨_,Z,Z,Z⟩,⟨_,Z,Z,Z⟩,trivial⟩,trivial,by rw [hk]; decide⟩⟩))
   ·refine ⟨by omega, ?_⟩
    rw [List.take_add_one,List.take_add_one,he1,he2,ht,c3]
   · omega
  try simp only [sB] at c2
  have h1 : s.take i = s := List.take_of_length_le (by omega)
  have h2 : m.take i = m := List.take_of_length_le (by omega)
  have he : s = m := by rw [← h1,← h2,ht]
  exact cG (aL (aL (bq (ak (sr (ae N Z Z (aq (s := 4) Z (congrArg pB (show true = (decide (s = m)) by simp [he])) (w_ret fp))))))))
theorem w_slices_Equal_byte_byte (s : List UInt8) (cl_s : Bool) (m : List UInt8) (cl_m : Bool) (hs : s.length ≤ 140737488355328) :
    T Tryz.prog 74 [pS 1 cl_s az s,pS 1 cl_m az m] 0 [] (Ret (pB (decide (s = m))) 0 []) := by
 refine bn aF (n := 26) (rs := [.tmp 4]) Tryz.func74 Z Z Z Z (nb Z) ?_
 intro c N hk
 refine sr (ae N Z Z (an (sr (xp N 5 [.o 1,.c (pN s.length),.o 1,.c (pN m.length),.o 1] [cC az s,cC az m] [(10,pB (!decide (((s.length : Nat) : Int) = ((m.length : Nat) : Int))))] ?_ (hc := ⟨lenC_ok _ _,lenC_ok _ _,trivial⟩)))))
 refine re (av Z (fun c1 => ?_) (fun c1 => ?_))
 ·try simp only [sB] at c1
  have hne : s ≠ m := fun e => by subst e; simp at c1
  exact sr (ae N Z Z (aq (s := 4) Z (congrArg pB (show false = (decide (s = m)) by simp [hne])) (w_ret (af fp))))
 try simp only [sB] at c1
 have hlm : s.length = m.length := by omega
 refine aw (ak (an (sr (qm N Z Z (qo N Z (ca (l := s) tab_38 Z (cf (f := az) Z) ?_))))))
 refine qm N Z Z (re (aP (gu (fun (i : Nat) => i ≤ s.length ∧ s.take i = m.take i) (fun (i : Nat) => [(0,pS 1 cl_s az s),(1,pS 1 cl_m az m),(12,pN s.length),(13,pN i)]) 0 (fun (i : Nat) => []) (fun (i : Nat) => s.length - i) (0) ?_ ⟨[],Z,⟨⟨_,Z,Z,Z⟩,⟨_,Z,Z,Z⟩,⟨_,Z,Z,Z⟩,⟨_,Z,Z,Z⟩,trivial⟩,trivial,by rw [hk]; decide⟩ ?_)))
 · exact ⟨Nat.zero_le _,by simp⟩
 ·intro i hI
  obtain ⟨hi,ht⟩ := hI
  refine sr (qo N Z (cZ Z Z ?_))
  refine re (an (av Z (fun c2 => ?_) (fun c2 => ?_)))
  ·try simp only [sB] at c2
   refine aw (ak (an (aP (sr (xp N 2 [.o 2] [] [(5,pN i)] ?_)))))
   refine re (an (cK N (xq 2 [.o 2] [] ?_)))
   obtain ⟨e1,he1⟩ := bl s (i := i) (by omega)
   refine xk [(16,pS 1 cl_s az s),(17,pN i)] [] [] [] [] (cA (q := i) (b := e1) (f := az) tab_38 Z tab_5 Z Z (by omega) Z he1 ⟨Z,Z,Z⟩) (xq 3 [.o 3] [] ?_)
   obtain ⟨e2,he2⟩ := bl m (i := i) (by omega)
   refine xk [(20,pS 1 cl_m az m),(21,pN i)] [] [] [] [] (cA (q := i) (b := e2) (f := az) tab_38 Z tab_5 Z Z (by omega) Z he2 ⟨Z,Z,Z⟩) (xq 2 [.o 1,.c (pB (!decide (e1 = e2)))] [Bs e1 e2] ?_ (hc := ⟨zt _ _,trivial⟩))
   refine xe [(0,pS 1 cl_s az s),(1,pS 1 cl_m az m),(12,pN s.length),(13,pN i),(24,pB (!decide (e1 = e2)))] (re (av Z (fun c3 => ?_) (fun c3 => ?_)))
   ·try simp only [sB] at c3
    have hne : s ≠ m := fun e => by subst e; rw [he1] at he2; cases he2; simp at c3
    exact sr (ae N Z Z (aq (s := 4) Z (congrArg pB (show false = (decide (s = m)) by simp [hne])) (w_ret (am (af (af (am (af fp))))))))
   try simp only [sB] at c3
   have c3 : e1 = e2 := by simpa using c3
   refine aw (aG (ak (bk (qo N Z (cm (a := i) (b := 1) Z Z (by omega) (by omega) (by omega) ?_)))))
   refine qm N Z Z (re (⟨(i + 1), ?_, ?_,⟨[],Z,⟨⟨_,Z,Z,Z⟩,⟨_,Z,Z,Z⟩,⟨_,Z,Z,Z⟩,⟨_,Z,Z,Z⟩,trivial⟩,trivial,by rw [hk]; decide⟩⟩))
   ·refine ⟨by omega, ?_⟩
    rw [List.take_add_one,List.take_add_one,he1,he2,ht,c3]
   · omega
  try simp only [sB] at c2
  have h1 : s.take i = s := List.take_of_length_le (by omega)
  have h2 : m.take i = m := List.take_of_length_le (by omega)
  have he : s = m := by rw [← h1,← h2,ht]
  exact cG (aL (aL (bq (ak (sr (ae N Z Z (aq (s := 4) Z (congrArg pB (show true = (decide (s = m)) by simp [he])) (w_ret fp))))))))
theorem kX (n : Int) (lo : Int) (hi : Int) (h : -4611686018427387904 ≤ lo ∧ lo ≤ hi ∧ hi ≤ 4611686018427387902) :
    T Tryz.prog 44 [pI n,pI lo,pI hi] 0 [] (Ret (pI (dW n lo hi)) 0 []) := by
 refine bn aF (n := 33) (rs := [.tmp 6]) Tryz.func44 Z Z Z Z (nb Z) ?_
 intro c N hk
 let Y : aI := [(0,pI ((((Int.tmod n ((hi - lo) + 1)) + hi) - lo) + 1)),(1,pI lo)]
 let Y0 : aI := [(6,pI (lo + (Int.tmod n ((hi - lo) + 1))))]
 let Y1 : aI := [(16,pI n),(20,pI ((hi - lo) + 1))]
 refine sr (ae N Z Z (an (sr (xp N 4 [.o 4] [] [(10,pB (decide (lo ≤ n)))] (bS aF N Z Z Z (fun g1 => ?_) (fun g1 => ?_))))))
 ·have g1' := g1
  try simp only [sB] at g1'
  refine qm N Z Z (bh (s := 10) Z (congrArg pB g1) (xp N 3 [.o 3] [] [(14,pB (decide (n ≤ hi)))] (re (av Z (fun c1 => ?_) (fun c1 => ?_)))))
  ·try simp only [sB] at c1
   exact sr (xa N 2 [.o 2] [] [(6,pI n)] 0 [] (re (aq (s := 6) Z (congrArg pI (show n = (dW n lo hi) by (unfold dW; repeat' split) <;> omega)) (w_ret (af fp)))))
  try simp only [sB] at c1
  refine aw (ak (an ?_))
  have hm := jQ n (m := hi - lo + 1) (by omega)
  refine bk (xp N 5 [.o 5] [bu (hi - lo),bu ((hi - lo) + 1)] Y1 ?_ (hc := ⟨by unfold bu; (omega),by unfold bu; (omega),trivial⟩))
  refine qo N Z (qu Z Z (by omega) ?_)
  refine ae N Z Z (an (sr (qm N Z Z (qo N Z (cZ Z Z ?_)))))
  refine re (av Z (fun c2 => ?_) (fun c2 => ?_))
  ·try simp only [sB] at c2
   refine bk (xa N 7 [.o 7] [bu ((Int.tmod n ((hi - lo) + 1)) + hi),bu (((Int.tmod n ((hi - lo) + 1)) + hi) - lo),bu ((((Int.tmod n ((hi - lo) + 1)) + hi) - lo) + 1)] Y 0 [] ?_ (hc := ⟨by unfold bu; (omega),by unfold bu; (omega),by unfold bu; (omega),trivial⟩))
   refine re (sr (qm N Z Z (qm N Z Z (qo N Z (gm (r := lo + ((((Int.tmod n ((hi - lo) + 1)) + hi) - lo) + 1)) Z Z Z (by omega) ?_)))))
   exact ae N Z Z (aq (s := 6) Z (congrArg pI (show (lo + ((((Int.tmod n ((hi - lo) + 1)) + hi) - lo) + 1)) = (dW n lo hi) by (unfold dW; repeat' split) <;> omega)) (w_ret fp))
  try simp only [sB] at c2
  refine aw (ak (sr (xa N 4 [.o 4] [bu (lo + (Int.tmod n ((hi - lo) + 1)))] Y0 0 [] ?_ (hc := ⟨by unfold bu; (omega),trivial⟩))))
  exact re (aq (s := 6) Z (congrArg pI (show (lo + (Int.tmod n ((hi - lo) + 1))) = (dW n lo hi) by (unfold dW; repeat' split) <;> omega)) (w_ret fp))
 have g1' := g1
 try simp only [sB] at g1'
 refine bh (s := 10) Z (congrArg pB g1) (xp N 3 [.o 3] [] [(14,pB false)] (re (av Z (fun e => absurd e (by decide)) (fun _ => ?_))))
 refine aw (ak (an ?_))
 have hm := jQ n (m := hi - lo + 1) (by omega)
 refine bk (xp N 5 [.o 5] [bu (hi - lo),bu ((hi - lo) + 1)] Y1 ?_ (hc := ⟨by unfold bu; (omega),by unfold bu; (omega),trivial⟩))
 refine qo N Z (qu Z Z (by omega) ?_)
 refine ae N Z Z (an (sr (qm N Z Z (qo N Z (cZ Z Z ?_)))))
 refine re (av Z (fun c3 => ?_) (fun c3 => ?_))
 ·try simp only [sB] at c3
  refine bk (xa N 7 [.o 7] [bu ((Int.tmod n ((hi - lo) + 1)) + hi),bu (((Int.tmod n ((hi - lo) + 1)) + hi) - lo),bu ((((Int.tmod n ((hi - lo) + 1)) + hi) - lo) + 1)] Y 0 [] ?_ (hc := ⟨by unfold bu; (omega),by unfold bu; (omega),by unfold bu; (omega),trivial⟩))
  refine re (sr (qm N Z Z (qm N Z Z (qo N Z (gm (r := lo + ((((Int.tmod n ((hi - lo) + 1)) + hi) - lo) + 1)) Z Z Z (by omega) ?_)))))
  exact ae N Z Z (aq (s := 6) Z (congrArg pI (show (lo + ((((Int.tmod n ((hi - lo) + 1)) + hi) - lo) + 1)) = (dW n lo hi) by (unfold dW; repeat' split) <;> omega)) (w_ret fp))
 try simp only [sB] at c3
 refine aw (ak (sr (xa N 4 [.o 4] [bu (lo + (Int.tmod n ((hi - lo) + 1)))] Y0 0 [] ?_ (hc := ⟨by unfold bu; (omega),trivial⟩))))
 exact re (aq (s := 6) Z (congrArg pI (show (lo + (Int.tmod n ((hi - lo) + 1))) = (dW n lo hi) by (unfold dW; repeat' split) <;> omega)) (w_ret fp))
theorem jw (s : List UInt16) (cl_s : Bool) (m : List UInt16) (cl_m : Bool) (hs : s.length ≤ 140737488355328) :
    T Tryz.prog 35 [pS 1 cl_s aj s,pS 1 cl_m aj m] 0 [] (Ret (pB (decide (s = m))) 0 []) := by
 refine bn aF (n := 26) (rs := [.tmp 4]) Tryz.func35 Z Z Z Z (nb Z) ?_
 intro c N hk
 refine sr (ae N Z Z (an (sr (xp N 5 [.o 1,.c (pN s.length),.o 1,.c (pN m.length),.o 1] [cC aj s,cC aj m] [(10,pB (!decide (((s.length : Nat) : Int) = ((m.length : Nat) : Int))))] ?_ (hc := ⟨lenC_ok _ _,lenC_ok _ _,trivial⟩)))))
 refine re (av Z (fun c1 => ?_) (fun c1 => ?_))
 ·try simp only [sB] at c1
  have hne : s ≠ m := fun e => by subst e; simp at c1
  exact sr (ae N Z Z (aq (s := 4) Z (congrArg pB (show false = (decide (s = m)) by simp [hne])) (w_ret (af fp))))
 try simp only [sB] at c1
 have hlm : s.length = m.length := by omega
 refine aw (ak (an (sr (ae N Z Z (aP (gu (fun (i : Nat) => i ≤ s.length ∧ s.take i = m.take i) (fun (i : Nat) => [(0,pS 1 cl_s aj s),(1,pS 1 cl_m aj m),(5,pN i)]) 0 (fun (i : Nat) => []) (fun (i : Nat) => s.length - i) (0) ?_ ⟨[],Z,⟨⟨_,Z,Z,Z⟩,⟨_,Z,Z,Z⟩,⟨_,Z,Z,Z⟩,trivial⟩,trivial,by rw [hk]; decide⟩ ?_))))))
 · exact ⟨Nat.zero_le _,by simp⟩
 ·intro i hI
  obtain ⟨hi,ht⟩ := hI
  refine an (sr (qm N Z Z (qm N Z Z (qo N Z (ca (l := s) bf Z (cf (f := aj) Z) ?_)))))
  refine qo N Z (cZ Z Z ?_)
  refine re (av Z (fun c2 => ?_) (fun c2 => ?_))
  ·try simp only [sB] at c2
   refine aw (ak (an (aP (an (cK N ?_)))))
   refine xq 2 [.o 2] [] ?_
   obtain ⟨e1,he1⟩ := bl s (i := i) (by omega)
   refine xk [(17,pS 1 cl_s aj s),(18,pN i)] [] [] [] [] (cA (q := i) (b := e1) (f := aj) bf Z bE Z Z (by omega) Z he1 ⟨Z,Z,Z⟩) (xq 3 [.o 3] [] ?_)
   obtain ⟨e2,he2⟩ := bl m (i := i) (by omega)
   refine xk [(21,pS 1 cl_m aj m),(22,pN i)] [] [] [] [] (cA (q := i) (b := e2) (f := aj) bf Z bE Z Z (by omega) Z he2 ⟨Z,Z,Z⟩) (xq 2 [.o 1,.c (pB (!decide (e1 = e2)))] [qC e1 e2] ?_ (hc := ⟨nk _ _,trivial⟩))
   refine xe [(0,pS 1 cl_s aj s),(1,pS 1 cl_m aj m),(5,pN i),(25,pB (!decide (e1 = e2)))] (re (av Z (fun c3 => ?_) (fun c3 => ?_)))
   ·try simp only [sB] at c3
    have hne : s ≠ m := fun e => by subst e; rw [he1] at he2; cases he2; simp at c3
    exact sr (ae N Z Z (aq (s := 4) Z (congrArg pB (show false = (decide (s = m)) by simp [hne])) (w_ret (am (af (af (am (af fp))))))))
   try simp only [sB] at c3
   have c3e : e1 = e2 := by simpa using c3
   refine aw (aG (ak (bk (qm N Z Z (qo N Z (cm (a := i) (b := 1) Z Z (by omega) (by omega) (by omega) ?_))))))
   refine ae N Z Z (⟨(i + 1), ?_, ?_,⟨[],Z,⟨⟨_,Z,Z,Z⟩,⟨_,Z,Z,Z⟩,⟨_,Z,Z,Z⟩,trivial⟩,trivial,by rw [hk]; decide⟩⟩)
   ·refine ⟨by omega, ?_⟩
    rw [List.take_add_one,List.take_add_one,he1,he2,ht,c3e]
   · omega
  try simp only [sB] at c2
  have h1 : s.take i = s := List.take_of_length_le (by omega)
  have h2 : m.take i = m := List.take_of_length_le (by omega)
  have he : s = m := by rw [← h1,← h2,ht]
  exact cG (aL (aL (bq (ak (sr (ae N Z Z (aq (s := 4) Z (congrArg pB (show true = (decide (s = m)) by simp [he])) (w_ret fp))))))))
def ce (s : TSpan) (m : Int) : Bool := decide (0 ≤ s.at_ ∧ 1 ≤ s.count ∧ s.at_ ≤ m ∧ s.count ≤ m - s.at_)
abbrev spOk (s : TSpan) : Bool := ce s 2147483648
theorem cP (s : TSpan) : spOk s = true ↔ 0 ≤ s.at_ ∧ 1 ≤ s.count ∧ s.at_ ≤ 2147483648 ∧ s.count ≤ 2147483648 - s.at_ := by simp [ce]
def cr (a b : TSpan) : Bool := spOk a && spOk b && decide (max a.at_ b.at_ < min (a.at_ + a.count) (b.at_ + b.count))
def bD (a b : TSpan) : TSpan := if cr a b then ⟨max a.at_ b.at_,min (a.at_ + a.count) (b.at_ + b.count) - max a.at_ b.at_⟩ else ⟨0,0⟩
def spIn (a b : TSpan) : Bool := cr a b && decide (bD a b = a)
theorem Ba (a b : TSpan) : (decide (a.at_ = b.at_) && (decide (a.count = b.count) && true)) = decide (a = b) := by
  cases a; cases b; simp [TSpan.mk.injEq]
def idxAt (l : List TSpan) (v : Int) : Option Nat := l.findIdx? fun x => decide (x.at_ ≤ v) && decide (v < x.at_ + x.count)
abbrev idxI : Option Nat → Int
  | some i => i
  | none => -1
theorem jg {α : Type}{p : α → Bool}{l : List α}{i : Nat}{e : α} (h : ∀ j x,j < i → l[j]? = some x → p x = false) (he : l[i]? = some e) (hp : p e = true) : l.findIdx? p = some i := by
  obtain ⟨hi,rfl⟩ := List.getElem?_eq_some_iff.1 he
  rw [List.findIdx?_eq_some_iff_getElem]
  exact ⟨hi,hp,fun j hj => by have := h j l[j] hj (by simp [show j < l.length by omega]); simp [this]⟩
theorem jh {α : Type}{p : α → Bool}{l : List α} (h : ∀ j x,j < l.length → l[j]? = some x → p x = false) : l.findIdx? p = none := by
  rw [List.findIdx?_eq_none_iff]
  intro x hx
  obtain ⟨j,hj⟩ := List.getElem?_of_mem hx
  exact h j x (List.getElem?_eq_some_iff.1 hj).1 hj
theorem sj (s : List TSpan) : decide (0 ≤ idxI (s.findIdx? fun x => !(spOk x))) = decide (∃ x ∈ s,spOk x = false) := by
  apply decide_eq_decide.2
  cases h : s.findIdx? fun x => !(spOk x) with
  | none =>
    rw [List.findIdx?_eq_none_iff] at h
    constructor
    · intro hc; simp [idxI] at hc
    · rintro ⟨x,hx,hf⟩
      have := h x hx
      simp [hf] at this
  | some i =>
    rw [List.findIdx?_eq_some_iff_getElem] at h
    obtain ⟨hi,hp,_⟩ := h
    constructor
    · intro _; exact ⟨s[i],List.getElem_mem hi,by simpa using hp⟩
    · intro _; simp [idxI]
theorem xz {l : List TSpan}{v : Int} (h : ¬ idxI (idxAt l v) < 0) : ∃ i e,idxAt l v = some i ∧ idxI (idxAt l v) = ((i : Nat) : Int) ∧ l[i]? = some e ∧ e.at_ ≤ v ∧ v < e.at_ + e.count := by
  cases hx : idxAt l v with
  | none => rw [hx] at h; simp [idxI] at h
  | some i =>
    have h2 := hx
    unfold idxAt at h2
    rw [List.findIdx?_eq_some_iff_getElem] at h2
    obtain ⟨hi,hp,_⟩ := h2
    simp only [Bool.and_eq_true,decide_eq_true_eq] at hp
    exact ⟨i,l[i],rfl,rfl,by simp [hi],hp.1,hp.2⟩
theorem xA {l : List TSpan}{v : Int} (h : idxI (idxAt l v) < 0) : idxAt l v = none := by
  cases hx : idxAt l v with
  | none => rfl
  | some i => rw [hx] at h; simp [idxI] at h; omega
abbrev lA : TSpan := ⟨0,0⟩
def dZ (l : List TSpan) (e v : Int) : Option (List TSpan) :=
  if v < e then
    match idxAt l v with
    | none => none
    | some i => if h : v < min ((l.getD i lA).at_ + (l.getD i lA).count) e then (dZ l e (min ((l.getD i lA).at_ + (l.getD i lA).count) e)).map (⟨v,min ((l.getD i lA).at_ + (l.getD i lA).count) e - v⟩ :: ·) else none
  else some []
termination_by (e - v).toNat
decreasing_by omega
theorem kf {l : List TSpan}{e v : Int} (h : ¬ v < e) : dZ l e v = some [] := by rw [dZ,if_neg h]
theorem oo {l : List TSpan}{e v : Int} (h : v < e) (hi : idxAt l v = none) : dZ l e v = none := by rw [dZ,if_pos h,hi]
theorem iy {l : List TSpan}{e v : Int} (h : v < e) {i : Nat}{x : TSpan} (hi : idxAt l v = some i) (hx : l[i]? = some x) (hv : v < x.at_ + x.count) :
    dZ l e v = (dZ l e (min (x.at_ + x.count) e)).map (⟨v,min (x.at_ + x.count) e - v⟩ :: ·) := by
  have hg : l.getD i lA = x := by simp [List.getD_eq_getElem?_getD,hx]
  rw [dZ,if_pos h,hi]
  simp only [hg]
  rw [dif_pos (by omega)]
def dr (l : List TSpan) (s : TSpan) : Option (List TSpan) := if spOk s = true ∧ ∀ x ∈ l,spOk x = true then dZ l (s.at_ + s.count) s.at_ else none
def cE (l : List TSpan) (s : TSpan) : List TSpan := (dr l s).getD []
def cz (l : List TSpan) (s : TSpan) : Bool := (dr l s).isSome
theorem rT {o : Option (List TSpan)}{os : List TSpan}{p : TSpan} : (o.map (p :: ·)).map (os ++ ·) = o.map ((os ++ [p]) ++ ·) := by cases o <;> simp
theorem oQ {x s : TSpan} (hx : spOk x = true) (hs : spOk s = true) : (cr x s && decide ((bD x s).at_ = s.at_)) = (decide (x.at_ ≤ s.at_) && decide (s.at_ < x.at_ + x.count)) := by
  have h1 := (cP x).1 hx
  have h2 := (cP s).1 hs
  unfold bD
  by_cases hm : cr x s = true
  · rw [if_pos hm,hm]
    simp only [cr,hx,hs,Bool.true_and,decide_eq_true_eq] at hm
    simp only [Bool.true_and]
    rw [← Bool.decide_and]
    apply decide_eq_decide.2
    omega
  · have hm' : cr x s = false := by simpa using hm
    rw [hm']
    simp only [cr,hx,hs,Bool.true_and,decide_eq_true_eq] at hm
    symm
    rw [Bool.false_and,← Bool.decide_and]
    apply decide_eq_false
    omega
theorem ul {x s : TSpan} (hx : spOk x = true) (hs : spOk s = true) (h : (cr x s && decide ((bD x s).at_ = s.at_)) = true) : bD x s = ⟨s.at_,min (x.at_ + x.count) (s.at_ + s.count) - s.at_⟩ := by
  simp only [Bool.and_eq_true,decide_eq_true_eq] at h
  have hm := h.1
  have ha := h.2
  unfold bD at ha ⊢
  rw [if_pos hm] at ha ⊢
  simp only at ha
  rw [ha]
theorem k9 (a b : TSpan) : spIn a b = true ↔ (spOk a = true ∧ spOk b = true ∧ b.at_ ≤ a.at_ ∧ a.at_ + a.count ≤ b.at_ + b.count) := by
  unfold spIn bD
  cases ha : spOk a with
  | false => simp [cr,ha]
  | true =>
    cases hb : spOk b with
    | false => simp [cr,hb]
    | true =>
      have h1 := (cP a).1 ha
      have h2 := (cP b).1 hb
      obtain ⟨p,q⟩ := a
      obtain ⟨r,t⟩ := b
      simp only at h1 h2
      simp only [cr,ha,hb,Bool.true_and,Bool.and_eq_true,decide_eq_true_eq]
      by_cases hm : max p r < min (p + q) (r + t)
      · simp only [hm,if_true,TSpan.mk.injEq,true_and]
        omega
      · constructor
        · intro h; exact absurd h.1 hm
        · intro h
          obtain ⟨h3,h4⟩ : r ≤ p ∧ p + q ≤ r + t := by simpa using h
          exact absurd (by omega) hm
theorem un (a b : TSpan) : cr a b = true ↔ (spOk a = true ∧ spOk b = true ∧ max a.at_ b.at_ < min (a.at_ + a.count) (b.at_ + b.count)) := by
  simp only [cr,Bool.and_eq_true,decide_eq_true_eq,and_assoc]
theorem p7 (l : List TSpan) (e : Int) : ∀ (n : Nat) (v : Int) (os : List TSpan),(e - v).toNat ≤ n → dZ l e v = some os → (os.length : Int) ≤ (e - v).toNat
  | n,v,os,hn,h => by
    rw [dZ] at h
    split at h
    · rename_i hv
      split at h
      · cases h
      · rename_i i hi
        split at h
        · rename_i hlt
          simp only [Option.map_eq_some_iff] at h
          obtain ⟨t,h1,rfl⟩ := h
          match n,hn with
          | 0,hn => omega
          | n + 1,hn =>
            have := p7 l e n _ t (by omega) h1
            simp only [List.length_cons]
            omega
        · cases h
    · cases h; simp; omega
theorem qq (l : List TSpan) (s : TSpan) : (cE l s).length ≤ 2147483648 := by
  unfold cE dr
  split
  · rename_i h
    have h1 := (cP s).1 h.1
    cases hc : dZ l (s.at_ + s.count) s.at_ with
    | none => simp
    | some os =>
      have := p7 l _ _ _ os (Nat.le_refl _) hc
      simp only [Option.getD_some]
      omega
  · simp
theorem w_span_Right (s : TSpan) (m : Int) (hm : m ≤ 9223372036854775807) :
    T Tryz.prog 102 [PV.f (aQ s),pI m] 0 [] (Ret (pB (ce s m)) 0 []) := by
 refine bn aF (n := 28) (rs := [.tmp 4]) Tryz.func102 Z Z Z Z (nb Z) ?_
 intro c N hk
 refine sr (qo N Z (cu Z Z ?_))
 refine qa N Z Z (aE [(1,pI m),(2,PV.ptr 0 0)] [(0,.obj (cI s))] 1 ⟨Z,Z,trivial⟩ Z Z (re (sr (xp N 4 [.o 4] [] [(8,pB (decide (0 ≤ s.at_)))] (bS aF N Z Z Z (fun g1 => ?_) (fun g1 => ?_))))))
 ·have g1' := g1
  try simp only [sB] at g1'
  refine qo N Z (aX db Z Z aD (by decide) Z ?_)
  refine bh (s := 8) Z (congrArg pB g1) (xp N 4 [.o 4] [] [(13,pB (decide (1 ≤ s.count)))] (bS aF N Z Z Z (fun g2 => ?_) (fun g2 => ?_)))
  ·have g2' := g2
   try simp only [sB] at g2'
   refine qo N Z (aX db Z Z aD (by decide) Z ?_)
   refine bh (s := 13) Z (congrArg pB g2) (xp N 5 [.o 5] [] [(19,pB (decide (s.at_ ≤ m)))] (bS aF N Z Z Z (fun g3 => ?_) (fun g3 => ?_)))
   ·have g3' := g3
    try simp only [sB] at g3'
    refine qo N Z (aX db Z Z aD (by decide) Z ?_)
    refine bh (s := 19) Z (congrArg pB g3) (xp N 8 [.o 8] [bu (m - s.at_)] [(4,pB (decide (s.count ≤ m - s.at_)))] ?_ (hc := ⟨by unfold bu; (omega),trivial⟩))
    exact re (aq (s := 4) Z (congrArg pB (show (decide (s.count ≤ m - s.at_)) = (ce s m) by unfold ce; (apply decide_eq_decide.2; omega))) (w_ret fp))
   have g3' := g3
   try simp only [sB] at g3'
   exact bh (s := 19) Z (congrArg pB g3) (xp N 8 [.o 8] [] [(4,pB false)] (re (aq (s := 4) Z (congrArg pB (show false = (ce s m) by unfold ce; (symm; apply decide_eq_false; omega))) (w_ret fp))))
  have g2' := g2
  try simp only [sB] at g2'
  exact bh (s := 13) Z (congrArg pB g2) (xp N 14 [.o 14] [] [(4,pB false)] (re (aq (s := 4) Z (congrArg pB (show false = (ce s m) by unfold ce; (symm; apply decide_eq_false; omega))) (w_ret fp))))
 have g1' := g1
 try simp only [sB] at g1'
 exact bh (s := 8) Z (congrArg pB g1) (xp N 19 [.o 19] [] [(4,pB false)] (re (aq (s := 4) Z (congrArg pB (show false = (ce s m) by unfold ce; (symm; apply decide_eq_false; omega))) (w_ret fp))))
theorem w_burgageref7_Right (s : TSpan) (m : Int) (hm : m ≤ 9223372036854775807) :
    T Tryz.prog 91 [PV.f (aQ s),pI m] 0 [] (Ret (pB (ce s m)) 0 []) := by
 refine bn aF (n := 28) (rs := [.tmp 4]) Tryz.func91 Z Z Z Z (nb Z) ?_
 intro c N hk
 refine sr (qo N Z (cu Z Z ?_))
 refine qa N Z Z (aE [(1,pI m),(2,PV.ptr 0 0)] [(0,.obj (cI s))] 1 ⟨Z,Z,trivial⟩ Z Z (re (sr (xp N 4 [.o 4] [] [(8,pB (decide (0 ≤ s.at_)))] (bS aF N Z Z Z (fun g1 => ?_) (fun g1 => ?_))))))
 ·have g1' := g1
  try simp only [sB] at g1'
  refine qo N Z (aX dy Z Z aD (by decide) Z ?_)
  refine bh (s := 8) Z (congrArg pB g1) (xp N 4 [.o 4] [] [(13,pB (decide (1 ≤ s.count)))] (bS aF N Z Z Z (fun g2 => ?_) (fun g2 => ?_)))
  ·have g2' := g2
   try simp only [sB] at g2'
   refine qo N Z (aX dy Z Z aD (by decide) Z ?_)
   refine bh (s := 13) Z (congrArg pB g2) (xp N 5 [.o 5] [] [(19,pB (decide (s.at_ ≤ m)))] (bS aF N Z Z Z (fun g3 => ?_) (fun g3 => ?_)))
   ·have g3' := g3
    try simp only [sB] at g3'
    refine qo N Z (aX dy Z Z aD (by decide) Z ?_)
    refine bh (s := 19) Z (congrArg pB g3) (xp N 8 [.o 8] [bu (m - s.at_)] [(4,pB (decide (s.count ≤ m - s.at_)))] ?_ (hc := ⟨by unfold bu; (omega),trivial⟩))
    exact re (aq (s := 4) Z (congrArg pB (show (decide (s.count ≤ m - s.at_)) = (ce s m) by unfold ce; (apply decide_eq_decide.2; omega))) (w_ret fp))
   have g3' := g3
   try simp only [sB] at g3'
   exact bh (s := 19) Z (congrArg pB g3) (xp N 8 [.o 8] [] [(4,pB false)] (re (aq (s := 4) Z (congrArg pB (show false = (ce s m) by unfold ce; (symm; apply decide_eq_false; omega))) (w_ret fp))))
  have g2' := g2
  try simp only [sB] at g2'
  exact bh (s := 13) Z (congrArg pB g2) (xp N 14 [.o 14] [] [(4,pB false)] (re (aq (s := 4) Z (congrArg pB (show false = (ce s m) by unfold ce; (symm; apply decide_eq_false; omega))) (w_ret fp))))
 have g1' := g1
 try simp only [sB] at g1'
 exact bh (s := 8) Z (congrArg pB g1) (xp N 19 [.o 19] [] [(4,pB false)] (re (aq (s := 4) Z (congrArg pB (show false = (ce s m) by unfold ce; (symm; apply decide_eq_false; omega))) (w_ret fp))))
theorem hC (s : TSpan)  :
    T Tryz.prog 95 [PV.f (aQ s)] 0 [] (Ret (pB (spOk s)) 0 []) := by
 refine bn aF (n := 5) (rs := [.tmp 2]) Tryz.func95 Z Z Z Z (nb Z) ?_
 intro c N hk
 refine sr (qo N Z (cu Z Z ?_))
 refine qa N Z Z (aE [(1,PV.ptr 0 0)] [(0,.obj (cI s))] 1 ⟨Z,trivial⟩ Z Z (re (sr (xp N 1 [.o 1] [] [(3,PV.f (aQ s))] (qo N Z (aO Z Z Z (w_span_Right s 2147483648 (by omega)) Z ?_))))))
 exact ae N Z Z (aq (s := 2) Z (congrArg pB (show (ce s 2147483648) = (spOk s) by simp [*])) (w_ret fp))
theorem eM (s : TSpan) (hs : spOk s = true) :
    T Tryz.prog 98 [PV.f (aQ s)] 0 [] (Ret (pI (s.at_ + s.count)) 0 []) := by
 refine bn aF (n := 8) (rs := [.tmp 2]) Tryz.func98 Z Z Z Z (nb Z) ?_
 intro c N hk
 have hs2 := (cP s).1 hs
 refine sr (qo N Z (cu Z Z ?_))
 refine qa N Z Z (aE [(1,PV.ptr 0 0)] [(0,.obj (cI s))] 1 ⟨Z,trivial⟩ Z Z (re (sr (xp N 6 [.o 6] [bu (s.at_ + s.count)] [(2,pI (s.at_ + s.count))] ?_ (hc := ⟨by unfold bu; (omega),trivial⟩)))))
 exact re (w_ret fp)
theorem sy (a : TSpan) (b : TSpan)  :
    T Tryz.prog 101 [PV.f (aQ a),PV.f (aQ b)] 0 [] (Ret (PV.tup [PV.f (aQ (bD a b)),pB (cr a b)]) 0 []) := by
 refine bn aF (n := 36) (rs := [.cell 4 138,.tmp 5]) Tryz.func101 Z Z Z Z (nb Z) ?_
 intro c N hk
 refine sr (qo N Z (cu Z Z ?_))
 refine qo N Z (cu Z Z ?_)
 refine qo N Z (cg db ?_)
 let Y : ah := [(2,.obj [pI 0,pI 0]),(1,.obj (cI b)),(0,.obj (cI a))]
 refine qa N Z Z (aE [(2,PV.ptr 0 0),(3,PV.ptr 1 0),(4,PV.ptr 2 0)] Y 3 ⟨Z,Z,Z,trivial⟩ Z Z (re (sr (xp N 4 [.o 4] [] [(9,pI a.at_),(11,pI b.at_)] (qo N Z (uY Z ?_))))))
 refine qa N Z Z (ae N Z Z (an (sr (xp N 1 [.o 1] [] [(13,PV.f (aQ a))] (qo N Z (aO Z Z Z (hC a) Z ?_))))))
 refine xp N 2 [.o 2] [] [(16,pB (!(spOk a)))] (bS aF N Z Z Z (fun g1 => ?_) (fun g1 => ?_))
 ·have g1' := g1
  try simp only [sB] at g1'
  have ea : spOk a = true := by simpa using g1
  have ha := (cP a).1 ea
  refine qo N Z (bj db Z Z Z (nb Z) ?_)
  refine bh (s := 16) Z (congrArg pB g1) (ry N Z Z Z Z (qo N Z (aO Z Z Z (hC b) Z ?_)))
  refine xp N 2 [.o 2] [] [(20,pB (!(spOk b)))] (re (av Z (fun c1 => ?_) (fun c1 => ?_)))
  ·try simp only [sB] at c1
   have eb : spOk b = false := by simpa using c1
   have em : cr a b = false := by simp [cr,eb]
   refine sr (xm N 3 [.o 3] [] [(5,pB false)] 3 Y (re (bH (n := 2) (ds := cI (bD a b)) Z ⟨le_of_eq (congrArg pI (show 0 = ((bD a b).at_) by simp [em,bD])),le_of_eq (congrArg pI (show 0 = ((bD a b).count) by simp [em,bD])),trivial⟩ (aq (s := 5) Z (congrArg pB (show false = (cr a b) by simp [em,bD])) (w_ret ?_)))))
   exact af fp
  try simp only [sB] at c1
  have eb : spOk b = true := by simpa using c1
  have hb := (cP b).1 eb
  refine aw (ak (an (an (cK N (xq 4 [.o 1,.c (pI (a.at_ + a.count)),.o 1,.c (pI (b.at_ + b.count))] [T Tryz.prog 98 [PV.f (aQ a)] 0 [] (Ret (pI (a.at_ + a.count)) 0 []),T Tryz.prog 98 [PV.f (aQ b)] 0 [] (Ret (pI (b.at_ + b.count)) 0 [])] ?_ (hc := ⟨(eM a (by omega)),(eM b (by omega)),trivial⟩))))))
  refine xk [(23,pI (a.at_ + a.count)),(25,pI (b.at_ + b.count))] [] [] [] Y (rC Z ⟨Z,Z,Z⟩) (xq 1 [.o 1] [] (xe [(4,PV.ptr 2 0),(6,pI (max a.at_ b.at_)),(7,pI (min (a.at_ + a.count) (b.at_ + b.count)))] (re (sr (qm N Z Z ?_)))))
  refine qm N Z Z (qo N Z (jy Z Z ?_))
  refine re (av Z (fun c2 => ?_) (fun c2 => ?_))
  ·try simp only [sB] at c2
   have em : cr a b = false := by simp only [cr,ea,eb,Bool.true_and]; apply decide_eq_false; omega
   refine sr (xm N 3 [.o 3] [] [(5,pB false)] 3 Y (re (bH (n := 2) (ds := cI (bD a b)) Z ⟨le_of_eq (congrArg pI (show 0 = ((bD a b).at_) by simp [em,bD])),le_of_eq (congrArg pI (show 0 = ((bD a b).count) by simp [em,bD])),trivial⟩ (aq (s := 5) Z (congrArg pB (show false = (cr a b) by simp [em,bD])) (w_ret ?_)))))
   exact af fp
  try simp only [sB] at c2
  have em : cr a b = true := by simp only [cr,ea,eb,Bool.true_and]; apply decide_eq_true; omega
  refine aw (ak (sr (xm N 7 [.o 7] [bu ((min (a.at_ + a.count) (b.at_ + b.count)) - (max a.at_ b.at_))] [(5,pB true)] 3 [(2,.obj [pI (max a.at_ b.at_),pI ((min (a.at_ + a.count) (b.at_ + b.count)) - (max a.at_ b.at_))]),(1,.obj (cI b)),(0,.obj (cI a))] ?_ (hc := ⟨by unfold bu; (omega),trivial⟩))))
  exact re (bH (n := 2) (ds := cI (bD a b)) Z ⟨le_of_eq (congrArg pI (show (max a.at_ b.at_) = ((bD a b).at_) by simp [em,bD])),le_of_eq (congrArg pI (show ((min (a.at_ + a.count) (b.at_ + b.count)) - (max a.at_ b.at_)) = ((bD a b).count) by simp [em,bD])),trivial⟩ (aq (s := 5) Z (congrArg pB (show true = (cr a b) by simp [em,bD])) (w_ret fp)))
 have g1' := g1
 try simp only [sB] at g1'
 have ea : spOk a = false := by simpa using g1
 have em : cr a b = false := by simp [cr,ea]
 refine bh (s := 16) Z (congrArg pB g1) (xp N 3 [.o 3] [] [(20,pB true)] (re (av Z (fun _ => ?_) (fun e => absurd e (by decide)))))
 refine sr (xm N 3 [.o 3] [] [(5,pB false)] 3 Y (re (bH (n := 2) (ds := cI (bD a b)) Z ⟨le_of_eq (congrArg pI (show 0 = ((bD a b).at_) by simp [em,bD])),le_of_eq (congrArg pI (show 0 = ((bD a b).count) by simp [em,bD])),trivial⟩ (aq (s := 5) Z (congrArg pB (show false = (cr a b) by simp [em,bD])) (w_ret ?_)))))
 exact af fp
theorem iT (a : TSpan) (b : TSpan)  :
    T Tryz.prog 92 [PV.f (aQ a),PV.f (aQ b)] 0 [] (Ret (PV.tup [PV.f (aQ (bD a b)),pB (cr a b)]) 0 []) := by
 refine bn aF (n := 42) (rs := [.cell 4 131,.tmp 5]) Tryz.func92 Z Z Z Z (nb Z) ?_
 intro c N hk
 refine sr (qo N Z (cu Z Z ?_))
 refine qo N Z (cu Z Z ?_)
 refine qo N Z (cg dy ?_)
 let Y : ah := [(2,.obj [pI 0,pI 0]),(1,.obj (cI b)),(0,.obj (cI a))]
 refine qa N Z Z (aE [(2,PV.ptr 0 0),(3,PV.ptr 1 0),(4,PV.ptr 2 0)] Y 3 ⟨Z,Z,Z,trivial⟩ Z Z (re (an (sr (xp N 1 [.o 1] [] [(8,PV.f (aQ a))] ?_)))))
 refine qo N Z (aO Z Z Z (w_burgageref7_Right a 2147483648 (by omega)) Z ?_)
 refine qo N Z (eO Z ?_)
 refine qm N Z Z (bS aF N Z Z Z (fun g1 => ?_) (fun g1 => ?_))
 ·have g1' := g1
  try simp only [sB] at g1'
  have ea : spOk a = true := by simpa using g1
  have ha := (cP a).1 ea
  refine qo N Z (bj dy Z Z Z (nb Z) ?_)
  refine bh (s := 11) Z (congrArg pB g1) (ry N Z Z Z Z (qo N Z (aO Z Z Z (w_burgageref7_Right b 2147483648 (by omega)) Z ?_)))
  refine xp N 2 [.o 2] [] [(15,pB (!(ce b 2147483648)))] (re (av Z (fun c1 => ?_) (fun c1 => ?_)))
  ·try simp only [sB] at c1
   have eb : spOk b = false := by simpa using c1
   have em : cr a b = false := by simp [cr,eb]
   refine sr (xm N 3 [.o 3] [] [(5,pB false)] 3 Y (re (bH (n := 2) (ds := cI (bD a b)) Z ⟨le_of_eq (congrArg pI (show 0 = ((bD a b).at_) by simp [em,bD])),le_of_eq (congrArg pI (show 0 = ((bD a b).count) by simp [em,bD])),trivial⟩ (aq (s := 5) Z (congrArg pB (show false = (cr a b) by simp [em,bD])) (w_ret ?_)))))
   exact af fp
  try simp only [sB] at c1
  have eb : spOk b = true := by simpa using c1
  have hb := (cP b).1 eb
  refine aw (ak (an (cK N (xq 4 [.o 4] [] (xk [(18,pI a.at_),(20,pI b.at_)] [] [] [] Y (uY Z ⟨Z,Z,Z⟩) ?_)))))
  refine xq 10 [.o 10] [bu (a.at_ + a.count),bu (b.at_ + b.count)] ?_ (hc := ⟨by unfold bu; (omega),by unfold bu; (omega),trivial⟩)
  refine xk [(26,pI (a.at_ + a.count)),(31,pI (b.at_ + b.count))] [] [] [] Y (rC Z ⟨Z,Z,Z⟩) (xq 2 [.o 2] [] (xe [(4,PV.ptr 2 0),(6,pI (max a.at_ b.at_)),(7,pI (min (a.at_ + a.count) (b.at_ + b.count)))] (re (an (sr ?_)))))
  refine qm N Z Z (qm N Z Z (qo N Z (jy Z Z ?_)))
  refine re (av Z (fun c2 => ?_) (fun c2 => ?_))
  ·try simp only [sB] at c2
   have em : cr a b = false := by simp only [cr,ea,eb,Bool.true_and]; apply decide_eq_false; omega
   refine sr (xm N 3 [.o 3] [] [(5,pB false)] 3 Y (re (bH (n := 2) (ds := cI (bD a b)) Z ⟨le_of_eq (congrArg pI (show 0 = ((bD a b).at_) by simp [em,bD])),le_of_eq (congrArg pI (show 0 = ((bD a b).count) by simp [em,bD])),trivial⟩ (aq (s := 5) Z (congrArg pB (show false = (cr a b) by simp [em,bD])) (w_ret ?_)))))
   exact af fp
  try simp only [sB] at c2
  have em : cr a b = true := by simp only [cr,ea,eb,Bool.true_and]; apply decide_eq_true; omega
  refine aw (ak (sr (xm N 7 [.o 7] [bu ((min (a.at_ + a.count) (b.at_ + b.count)) - (max a.at_ b.at_))] [(5,pB true)] 3 [(2,.obj [pI (max a.at_ b.at_),pI ((min (a.at_ + a.count) (b.at_ + b.count)) - (max a.at_ b.at_))]),(1,.obj (cI b)),(0,.obj (cI a))] ?_ (hc := ⟨by unfold bu; (omega),trivial⟩))))
  exact re (bH (n := 2) (ds := cI (bD a b)) Z ⟨le_of_eq (congrArg pI (show (max a.at_ b.at_) = ((bD a b).at_) by simp [em,bD])),le_of_eq (congrArg pI (show ((min (a.at_ + a.count) (b.at_ + b.count)) - (max a.at_ b.at_)) = ((bD a b).count) by simp [em,bD])),trivial⟩ (aq (s := 5) Z (congrArg pB (show true = (cr a b) by simp [em,bD])) (w_ret fp)))
 have g1' := g1
 try simp only [sB] at g1'
 have ea : spOk a = false := by simpa using g1
 have em : cr a b = false := by simp [cr,ea]
 refine bh (s := 11) Z (congrArg pB g1) (xp N 3 [.o 3] [] [(15,pB true)] (re (av Z (fun _ => ?_) (fun e => absurd e (by decide)))))
 refine sr (xm N 3 [.o 3] [] [(5,pB false)] 3 Y (re (bH (n := 2) (ds := cI (bD a b)) Z ⟨le_of_eq (congrArg pI (show 0 = ((bD a b).at_) by simp [em,bD])),le_of_eq (congrArg pI (show 0 = ((bD a b).count) by simp [em,bD])),trivial⟩ (aq (s := 5) Z (congrArg pB (show false = (cr a b) by simp [em,bD])) (w_ret ?_)))))
 exact af fp
theorem uL (a : TSpan) (b : TSpan)  :
    T Tryz.prog 89 [PV.f (aQ a),PV.f (aQ b)] 0 [] (Ret (pB (spIn a b)) 0 []) := by
 refine bn aF (n := 19) (rs := [.tmp 4]) Tryz.func89 Z Z Z Z (nb Z) ?_
 intro c N hk
 refine sr (qo N Z (cu Z Z ?_))
 refine qo N Z (cu Z Z ?_)
 refine qa N Z Z (aE [(2,PV.ptr 0 0),(3,PV.ptr 1 0)] [(1,.obj (cI b)),(0,.obj (cI a))] 2 ⟨Z,Z,trivial⟩ Z Z (re (sr (xp N 2 [.o 2] [] [(8,PV.f (aQ a)),(9,PV.f (aQ b))] (qo N Z (aO Z Z Z (sy a b) Z ?_))))))
 refine xm N 6 [.o 6] [] [(5,PV.ptr 2 0),(6,pB (cr a b))] 3 [(2,.obj (cI (bD a b))),(1,.obj (cI b)),(0,.obj (cI a))] (re (sr (qm N Z Z (qm N Z Z (bS aF N Z Z Z (fun g1 => ?_) (fun g1 => ?_))))))
 ·have g1' := g1
  try simp only [sB] at g1'
  have em := g1
  refine qo N Z (bj db Z Z Z (nb Z) ?_)
  refine bh (s := 14) Z (congrArg pB g1) (xp N 1 [.o 1] [] [(16,PV.f (aQ a))] (ry N Z Z Z Z (qo N Z (nY (r := decide ((bD a b).at_ = a.at_) && (decide ((bD a b).count = a.count) && true)) yM Z Z Z Z (by rfl) ?_))))
  refine qo N Z (bg Z Z Z ?_)
  exact ae N Z Z (aq (s := 4) Z (congrArg pB (show (decide ((bD a b).at_ = a.at_) && (decide ((bD a b).count = a.count) && true)) = (spIn a b) by (unfold spIn; rw [em,← Ba]; rfl))) (w_ret fp))
 have g1' := g1
 try simp only [sB] at g1'
 have em := g1
 exact bh (s := 14) Z (congrArg pB g1) (xp N 4 [.o 4] [] [(4,pB false)] (re (aq (s := 4) Z (congrArg pB (show false = (spIn a b) by (unfold spIn; rw [em]; simp; done))) (w_ret fp))))
theorem m6 (a : TSpan) (b : TSpan)  :
    T Tryz.prog 78 [PV.f (aQ a),PV.f (aQ b)] 0 [] (Ret (pB (spIn a b)) 0 []) := by
 refine bn aF (n := 19) (rs := [.tmp 4]) Tryz.func78 Z Z Z Z (nb Z) ?_
 intro c N hk
 refine sr (qo N Z (cu Z Z ?_))
 refine qo N Z (cu Z Z ?_)
 refine qa N Z Z (aE [(2,PV.ptr 0 0),(3,PV.ptr 1 0)] [(1,.obj (cI b)),(0,.obj (cI a))] 2 ⟨Z,Z,trivial⟩ Z Z (re (sr (xp N 2 [.o 2] [] [(8,PV.f (aQ a)),(9,PV.f (aQ b))] (qo N Z (aO Z Z Z (iT a b) Z ?_))))))
 refine xm N 6 [.o 6] [] [(5,PV.ptr 2 0),(6,pB (cr a b))] 3 [(2,.obj (cI (bD a b))),(1,.obj (cI b)),(0,.obj (cI a))] (re (sr (qm N Z Z (qm N Z Z (bS aF N Z Z Z (fun g1 => ?_) (fun g1 => ?_))))))
 ·have g1' := g1
  try simp only [sB] at g1'
  have em := g1
  refine qo N Z (bj dy Z Z Z (nb Z) ?_)
  refine bh (s := 14) Z (congrArg pB g1) (xp N 1 [.o 1] [] [(16,PV.f (aQ a))] (ry N Z Z Z Z (qo N Z (nY (r := decide ((bD a b).at_ = a.at_) && (decide ((bD a b).count = a.count) && true)) yN Z Z Z Z (by rfl) ?_))))
  refine qo N Z (bg Z Z Z ?_)
  exact ae N Z Z (aq (s := 4) Z (congrArg pB (show (decide ((bD a b).at_ = a.at_) && (decide ((bD a b).count = a.count) && true)) = (spIn a b) by (unfold spIn; rw [em,← Ba]; rfl))) (w_ret fp))
 have g1' := g1
 try simp only [sB] at g1'
 have em := g1
 exact bh (s := 14) Z (congrArg pB g1) (xp N 4 [.o 4] [] [(4,pB false)] (re (aq (s := 4) Z (congrArg pB (show false = (spIn a b) by (unfold spIn; rw [em]; simp; done))) (w_ret fp))))
theorem oD (x : TSpan)  :
    T Tryz.prog 97 [PV.f (aQ x)] 0 [] (Ret (pB (!(spOk x))) 0 []) := by
 refine bn aF (n := 6) (rs := [.tmp 2]) Tryz.func97 Z Z Z Z (nb Z) ?_
 intro c N hk
 refine sr (qo N Z (cu Z Z ?_))
 refine qa N Z Z (aE [(1,PV.ptr 0 0)] [(0,.obj (cI x))] 1 ⟨Z,trivial⟩ Z Z (re (sr (xp N 1 [.o 1] [] [(3,PV.f (aQ x))] (qo N Z (aO Z Z Z (hC x) Z ?_))))))
 exact xp N 2 [.o 2] [] [(2,pB (!(spOk x)))] (re (w_ret fp))
theorem oC (x : TSpan) (v : Int) (hx : spOk x = true) :
    T Tryz.prog 99 [PV.f (aQ x),PV.ptr 0 0] 1 [(0,.obj [pI v])] (Ret (pB (decide (x.at_ ≤ v) && decide (v < x.at_ + x.count))) 1 [(0,.obj [pI v])]) := by
 refine bn aF (n := 14) (rs := [.tmp 3]) Tryz.func99 Z Z Z Z (nb Z) ?_
 intro c N hk
 refine sr (qo N Z (cu Z Z ?_))
 let Y0 : ah := [(1,.obj (cI x)),(0,.obj [pI v])]
 let Y2 : Nat × PV := (2,PV.ptr 1 0)
 refine qa N Z Z (aE [(1,PV.ptr 0 0),Y2] Y0 2 ⟨Z,Z,trivial⟩ Z Z (re (an (cK N (xq 5 [.o 5] [] ?_)))))
 let Y : Nat × PV := (8,pB (decide (x.at_ ≤ v)))
 let Y1 : ah := [(0,.obj [pI v])]
 refine xi 8 [Y,(1,PV.ptr 0 0)] Z (fun g1 => ?_) (fun g1 => ?_)
 ·have g1' := g1
  try simp only [sB] at g1'
  refine bU [Y,(1,PV.ptr 0 0)] Y1 [] Y1 Y0 (bp aD Z Z Z Z Z ⟨Z,Z,Z⟩) ?_ (hs := ⟨Z,trivial⟩)
  refine cw 8 [Y,Y2] Z g1 (bU [Y,Y2] [(1,.obj (cI x))] [] [(1,.obj (cI x))] Y0 (bj db Z Z Z (nb Z) ⟨Z,Z,Z⟩) ?_ (hs := ⟨Z,trivial⟩))
  refine cw 8 [Y,(10,PV.f (aQ x))] Z g1 (bU [Y,(10,PV.f (aQ x))] [] [] [] Y0 (aO Z Z Z (eM x (by omega)) Z ⟨Z,Z,Z⟩) (cw 8 [Y,(9,pI v),(11,pI (x.at_ + x.count))] Z g1 (bU [Y,(9,pI v),(11,pI (x.at_ + x.count))] [] [] [] Y0 (cZ Z Z ⟨Z,Z,Z⟩) (xk [Y,(12,pB (decide (v < x.at_ + x.count)))] [] [] [] Y0 (bg Z g1 Z ⟨Z,Z,Z⟩) (xq 1 [.o 1] [] ?_)))))
  refine xe [(3,pB (decide (v < x.at_ + x.count)))] (re (aq (s := 3) Z (congrArg pB (show (decide (v < x.at_ + x.count)) = (decide (x.at_ ≤ v) && decide (v < x.at_ + x.count)) by (simp_all; done))) (w_ret ?_)))
  exact bB (nx1 := 1) (H1 := Y1) [(0,0)] (ret_tmp Z ret_nil) Z (by decide) ⟨⟨_,_,Z,Z,Z,Z⟩,trivial⟩ (by decide) Z ⟨Z,Z,Z⟩
 have g1' := g1
 try simp only [sB] at g1'
 refine dj 8 [Y,Y2] Z g1 (dj 8 [Y,(10,aZ)] Z g1 (dj 8 [Y,(9,aZ),(11,aZ)] Z g1 (xk [Y,(12,aZ)] [] [] [] Y0 (bd Z g1 Z ⟨Z,Z,Z⟩) (xq 1 [.o 1] [] (xe [(3,pB false)] ?_)))))
 refine re (aq (s := 3) Z (congrArg pB (show false = (decide (x.at_ ≤ v) && decide (v < x.at_ + x.count)) by (simp_all; omega))) (w_ret ?_))
 exact bB (nx1 := 1) (H1 := Y1) [(0,0)] (ret_tmp Z ret_nil) Z (by decide) ⟨⟨_,_,Z,Z,Z,Z⟩,trivial⟩ (by decide) Z ⟨Z,Z,Z⟩
theorem fK (s : List TSpan) (cl_s : Bool) (hs : s.length ≤ 140737488351232) :
    T Tryz.prog 87 [pS 2 cl_s aQ s,PV.clo (.func 97) []] 0 [] (Ret (pI (idxI (s.findIdx? fun x => !(spOk x)))) 0 []) := by
 refine bn aF (n := 19) (rs := [.tmp 4]) Tryz.func87 Z Z Z Z (nb Z) ?_
 intro c N hk
 refine sr (ae N Z Z (an (sr (qm N Z Z (qo N Z (ca (l := s) ei Z (cf (f := aQ) Z) ?_))))))
 refine qm N Z Z (re (aP (gu (fun (i : Nat) => i ≤ s.length ∧ ∀ j x,j < i → s[j]? = some x → (!(spOk x)) = false) (fun (i : Nat) => [(0,pS 2 cl_s aQ s),(1,PV.clo (.func 97) []),(7,pN s.length),(8,pN i)]) 0 (fun (i : Nat) => []) (fun (i : Nat) => s.length - i) (0) ?_ ⟨[],Z,⟨⟨_,Z,Z,Z⟩,⟨_,Z,Z,Z⟩,⟨_,Z,Z,Z⟩,⟨_,Z,Z,Z⟩,trivial⟩,trivial,by rw [hk]; decide⟩ ?_)))
 · exact ⟨Nat.zero_le _,fun j x hj => by omega⟩
 ·intro i hI
  obtain ⟨hi,ht⟩ := hI
  refine sr (qo N Z (cZ Z Z ?_))
  refine re (an (av Z (fun c1 => ?_) (fun c1 => ?_)))
  ·try simp only [sB] at c1
   refine aw (ak (an (aP (sr (xp N 2 [.o 2] [] [(5,pN i)] ?_)))))
   refine re (sr (qm N Z Z (qm N Z Z (qm N Z Z ?_))))
   obtain ⟨e1,he1⟩ := bl s (i := i) (by omega)
   refine qo N Z (cA (q := i) (b := e1) (f := aQ) ei Z db Z Z (by omega) Z he1 ?_)
   refine qo N Z (gk db Z Z Z ?_)
   refine qo N Z (aO Z Z Z (oD e1) Z ?_)
   refine re (av Z (fun c2 => ?_) (fun c2 => ?_))
   ·have c2_ := c2
    try simp only [sB] at c2
    refine sr (xp N 2 [.o 2] [] [(4,pN i)] (re (aq (s := 4) Z (congrArg pI (show ((i : Nat) : Int) = (idxI (s.findIdx? fun x => !(spOk x))) by rw [jg (p := fun x => !(spOk x)) ht he1 c2_])) (w_ret (am ?_)))))
    exact af (af (am (af fp)))
   have c2_ := c2
   try simp only [sB] at c2
   refine aw (aG (ak (bk (qo N Z (cm (a := i) (b := 1) Z Z (by omega) (by omega) (by omega) ?_)))))
   refine qm N Z Z (re (⟨(i + 1), ?_, ?_,⟨[],Z,⟨⟨_,Z,Z,Z⟩,⟨_,Z,Z,Z⟩,⟨_,Z,Z,Z⟩,⟨_,Z,Z,Z⟩,trivial⟩,trivial,by rw [hk]; decide⟩⟩))
   ·refine ⟨by omega,fun j x hj hx => ?_⟩
    by_cases hji : j < i
    · exact ht j x hji hx
    · obtain rfl : j = i := by omega
      rw [he1] at hx; cases hx; exact c2_
   · omega
  try simp only [sB] at c1
  exact cG (aL (aL (bq (ak (sr (ae N Z Z (aq (s := 4) Z (congrArg pI (show (-1) = (idxI (s.findIdx? fun x => !(spOk x))) by rw [jh (p := fun x => !(spOk x)) (fun j x hj hx => ht j x (by omega) hx)])) (w_ret fp))))))))
theorem fJ (s : List TSpan) (cl_s : Bool) (v : Int) (hs : s.length ≤ 140737488351232) (hg : ∀ x ∈ s,spOk x = true) :
    T Tryz.prog 87 [pS 2 cl_s aQ s,PV.clo (.func 99) [PV.ptr 0 0]] 1 [(0,.obj [pI v])] (Ret (pI (idxI (idxAt s v))) 1 [(0,.obj [pI v])]) := by
 refine bn aF (n := 19) (rs := [.tmp 4]) Tryz.func87 Z Z Z Z (nb Z) ?_
 intro c N hk
 refine sr (ae N Z Z (an (sr (qm N Z Z (qo N Z (ca (l := s) ei Z (cf (f := aQ) Z) ?_))))))
 let Y : ah := [(0,.obj [pI v])]
 refine qm N Z Z (re (aP (gu (fun (i : Nat) => i ≤ s.length ∧ ∀ j x,j < i → s[j]? = some x → (decide (x.at_ ≤ v) && decide (v < x.at_ + x.count)) = false) (fun (i : Nat) => [(0,pS 2 cl_s aQ s),(1,PV.clo (.func 99) [PV.ptr 0 0]),(7,pN s.length),(8,pN i)]) 1 (fun (i : Nat) => Y) (fun (i : Nat) => s.length - i) (0) ?_ ⟨[(0,0)],by rw [hk]; decide,⟨⟨_,rfl,rfl,rfl⟩,⟨_,rfl,rfl,rfl⟩,⟨_,rfl,rfl,rfl⟩,⟨_,rfl,rfl,rfl⟩,trivial⟩,⟨⟨_,_,rfl,rfl,rfl,rfl⟩,trivial⟩,by rw [hk]; decide⟩ ?_)))
 · exact ⟨Nat.zero_le _,fun j x hj => by omega⟩
 ·intro i hI
  obtain ⟨hi,ht⟩ := hI
  refine sr (qo N Z (cZ Z Z ?_))
  refine re (an (av Z (fun c1 => ?_) (fun c1 => ?_)))
  ·try simp only [sB] at c1
   refine aw (ak (an (aP (sr (xp N 2 [.o 2] [] [(5,pN i)] ?_)))))
   refine re (an ?_)
   have hge := hg
   refine bk (qm N Z Z (qm N Z Z (qm N Z Z ?_)))
   obtain ⟨e1,he1⟩ := bl s (i := i) (by omega)
   refine qo N Z (cA (q := i) (b := e1) (f := aQ) ei Z db Z Z (by omega) Z he1 ?_)
   refine qo N Z (gk db Z Z Z ?_)
   refine qo N Z (aN 1 (pB (decide (e1.at_ ≤ v) && decide (v < e1.at_ + e1.count))) Y [0] (oC e1 v (by exact hg e1 (List.mem_of_getElem? he1))) ?_)
   refine aE [(0,pS 2 cl_s aQ s),(1,PV.clo (.func 99) [PV.ptr 0 0]),(5,pN i),(7,pN s.length),(8,pN i),(16,pB (decide (e1.at_ ≤ v) && decide (v < e1.at_ + e1.count)))] Y 1 ⟨Z,Z,Z,Z,Z,Z,trivial⟩ Z Z (re (av Z (fun c2 => ?_) (fun c2 => ?_)))
   ·have c2_ := c2
    try simp only [sB] at c2
    refine sr (xp N 2 [.o 2] [] [(4,pN i)] (re (aq (s := 4) Z (congrArg pI (show ((i : Nat) : Int) = (idxI (idxAt s v)) by unfold idxAt; rw [jg (p := fun x => decide (x.at_ ≤ v) && decide (v < x.at_ + x.count)) ht he1 c2_])) (w_ret (am ?_)))))
    refine af (af (am (af ?_)))
    exact bB (nx1 := 1) (H1 := Y) [(0,0)] (ret_tmp Z ret_nil) Z (by decide) ⟨⟨_,_,Z,Z,Z,Z⟩,trivial⟩ (by decide) Z ⟨Z,Z,Z⟩
   have c2_ := c2
   try simp only [sB] at c2
   refine aw (aG (ak (bk (qo N Z (cm (a := i) (b := 1) Z Z (by omega) (by omega) (by omega) ?_)))))
   refine qm N Z Z (re (⟨(i + 1), ?_, ?_,⟨[(0,0)],by rw [hk]; decide,⟨⟨_,rfl,rfl,rfl⟩,⟨_,rfl,rfl,rfl⟩,⟨_,rfl,rfl,rfl⟩,⟨_,rfl,rfl,rfl⟩,trivial⟩,⟨⟨_,_,rfl,rfl,rfl,rfl⟩,trivial⟩,by rw [hk]; decide⟩⟩))
   ·refine ⟨by omega,fun j x hj hx => ?_⟩
    by_cases hji : j < i
    · exact ht j x hji hx
    · obtain rfl : j = i := by omega
      rw [he1] at hx; cases hx; exact c2_
   · omega
  try simp only [sB] at c1
  refine cG (aL (aL (bq (ak (sr (ae N Z Z (aq (s := 4) Z (congrArg pI (show (-1) = (idxI (idxAt s v)) by unfold idxAt; rw [jh (p := fun x => decide (x.at_ ≤ v) && decide (v < x.at_ + x.count)) (fun j x hj hx => ht j x (by omega) hx)])) (w_ret ?_))))))))
  exact bB (nx1 := 1) (H1 := Y) [(0,0)] (ret_tmp Z ret_nil) Z (by decide) ⟨⟨_,_,Z,Z,Z,Z⟩,trivial⟩ (by decide) Z ⟨Z,Z,Z⟩
theorem fq (s : List TSpan) (cl_s : Bool) (hs : s.length ≤ 140737488351232) :
    T Tryz.prog 96 [pS 2 cl_s aQ s,PV.clo (.func 97) []] 0 [] (Ret (pB (decide (∃ x ∈ s,spOk x = false))) 0 []) := by
 refine bn aF (n := 9) (rs := [.tmp 4]) Tryz.func96 Z Z Z Z (nb Z) ?_
 intro c N hk
 refine sr (ae N Z Z (sr (qm N Z Z (qm N Z Z (qo N Z (aN 0 (pI (idxI (s.findIdx? fun x => !(spOk x)))) [] [] (fK s cl_s (by omega)) ?_))))))
 refine qo N Z (jy Z Z ?_)
 exact ae N Z Z (aq (s := 4) Z (congrArg pB (show (decide (0 ≤ idxI (s.findIdx? fun x => !(spOk x)))) = (decide (∃ x ∈ s,spOk x = false)) by exact sj s)) (w_ret fp))
theorem qW (l : List TSpan) (cl_l : Bool) (s : TSpan) (hl : l.length ≤ 140737488351232) :
    T Tryz.prog 86 [pS 2 cl_l aQ l,PV.f (aQ s)] 0 [] (Ret (PV.tup [pS 2 false aQ (cE l s),pB (cz l s)]) 0 []) := by
 refine bn aF (n := 48) (rs := [.tmp 4,.tmp 5]) Tryz.func86 Z Z Z Z (nb Z) ?_
 intro c N hk
 refine sr (xm N 3 [.o 3] [] [(3,PV.ptr 0 0)] 1 [(0,.obj (cI s))] (re (an (sr (xp N 1 [.o 1] [] [(10,PV.f (aQ s))] ?_)))))
 refine qo N Z (aO Z Z Z (hC s) Z ?_)
 refine xp N 2 [.o 2] [] [(13,pB (!(spOk s)))] (bS aF N Z Z Z (fun g1 => ?_) (fun g1 => ?_))
 ·have g1' := g1
  try simp only [sB] at g1'
  have es : spOk s = true := by simpa using g1
  have hs := (cP s).1 es
  refine qm N Z Z (bh (s := 13) Z (congrArg pB g1) (ry N Z Z Z Z (qo N Z (aN 1 (pB (decide (∃ x ∈ l,spOk x = false))) [(0,.obj (cI s))] [] (fq l cl_l (by omega)) ?_))))
  refine qo N Z (bd Z Z Z ?_)
  refine re (av Z (fun c1 => ?_) (fun c1 => ?_))
  ·try simp only [sB] at c1
   have ec : dr l s = none := by unfold dr; rw [if_neg]; rintro ⟨_,h⟩; obtain ⟨x,hx,hf⟩ := c1; rw [h x hx] at hf; cases hf
   exact sr (qa N Z Z (ae N Z Z (dw (s := 4) (y := pS 2 false aQ []) Z (ax 2 false) (aq (s := 4) Z (congrArg (fun z => pS 2 false aQ z) (show ([] : List TSpan) = (cE l s) by (simp [cE,cz,ec]; done))) (aq (s := 5) Z (congrArg pB (show false = (cz l s) by (simp [cE,cz,ec]; done))) (w_ret (af fp)))))))
  try simp only [sB] at c1
  have hg : ∀ x ∈ l,spOk x = true := by intro x hx; cases hq : spOk x with|true => rfl|false => exact absurd ⟨x,hx,hq⟩ c1
  have ec : dr l s = dZ l (s.at_ + s.count) s.at_ := by unfold dr; rw [if_pos ⟨es,hg⟩]
  refine aw (ak (sr (ae N Z Z (an (sr ?_)))))
  let Y0 : Nat × PV := (0,pS 2 cl_l aQ l)
  let Y2 : Nat × Pv.Obj := (2,.obj (cI s))
  let Y4 : Nat × PV := (7,PV.ptr 1 0)
  let Y5 : Nat × PV := (3,PV.ptr 2 0)
  let Y6 : Nat × PV := (6,PV.ref 0 0 none)
  refine xm N 4 [.o 4] [] [Y4] 2 [(1,.obj [pI s.at_]),(0,.obj (cI s))] (re (aP (dD (s := 6) (sz := 2) Z (gf (fun (os : List TSpan) (v : Int) => s.at_ ≤ v ∧ v ≤ s.at_ + s.count ∧ (os.length : Int) ≤ v - s.at_ ∧ dZ l (s.at_ + s.count) s.at_ = (dZ l (s.at_ + s.count) v).map (os ++ ·)) (fun (os : List TSpan) (v : Int) => [Y0,Y5,Y6,Y4]) 3 (fun (os : List TSpan) (v : Int) => [(0,oB true 2 aQ os),(1,.obj [pI v]),Y2]) (fun (os : List TSpan) (v : Int) => (s.at_ + s.count - v).toNat) (([] : List TSpan)) (s.at_) ?_ ⟨[(0,2),(1,1),(2,0)],by rw [hk]; decide,⟨⟨_,rfl,rfl,rfl⟩,⟨_,rfl,rfl,rfl⟩,⟨_,rfl,rfl,rfl⟩,⟨_,rfl,rfl,rfl⟩,trivial⟩,⟨⟨_,_,rfl,rfl,rfl,rfl⟩,⟨_,_,rfl,rfl,rfl,rfl⟩,⟨_,_,rfl,rfl,rfl,rfl⟩,trivial⟩,by rw [hk]; decide⟩ ?_))))
  · exact ⟨by omega,by omega,by simp,by simp⟩
  ·intro os v hI
   obtain ⟨hv1,hv2,hol,hcov⟩ := hI
   refine an (an (cK N (xq 4 [.o 2,.c (pI (s.at_ + s.count)),.o 1] [T Tryz.prog 98 [PV.f (aQ s)] 0 [] (Ret (pI (s.at_ + s.count)) 0 [])] ?_ (hc := ⟨(eM s (by omega)),trivial⟩))))
   refine xe [Y0,Y5,Y6,Y4,(22,pB (decide (v < s.at_ + s.count)))] (re (av Z (fun c2 => ?_) (fun c2 => ?_)))
   ·try simp only [sB] at c2
    refine aw (ak (an (aP (sr (qm N Z Z (qo N Z (nX Z Z ?_)))))))
    let Y : ah := [(1,.obj [pI v]),(0,oB true 2 aQ os),Y2]
    refine qo N Z (aN 3 (pI (idxI (idxAt l v))) Y [1] (fJ l cl_l v (by omega) (by omega)) ?_)
    refine qa N Z Z (aE [Y0,Y5,Y6,Y4,(8,pI (idxI (idxAt l v)))] Y 3 ⟨Z,Z,Z,Z,Z,trivial⟩ Z Z (re (an (sr (qm N Z Z (qo N Z (cZ Z Z ?_)))))))
    refine re (av Z (fun c3 => ?_) (fun c3 => ?_))
    ·try simp only [sB] at c3
     have en : dr l s = none := by rw [ec,hcov,oo c2 (xA c3)]; rfl
     refine sr (qa N Z Z (ae N Z Z (dw (s := 4) (y := pS 2 false aQ []) Z (ax 2 false) (aq (s := 4) Z (congrArg (fun z => pS 2 false aQ z) (show ([] : List TSpan) = (cE l s) by (simp [cE,cz,en]; done))) (aq (s := 5) Z (congrArg pB (show false = (cz l s) by (simp [cE,cz,en]; done))) (w_ret (af (am (af ?_)))))))))
     exact af (am (af fp))
    try simp only [sB] at c3
    obtain ⟨ii,e0,hxa,hxi,he0,hxl,hxh⟩ := xz (l := l) (v := v) (by omega)
    refine aq (s := 8) Z (congrArg pI (show (idxI (idxAt l v)) = ((ii : Nat) : Int) by exact hxi)) ?_
    have eg := hg e0 (List.mem_of_getElem? he0)
    have heg := (cP e0).1 eg
    refine aw (ak (an (cK N (xq 2 [.o 2] [] (xk [(28,pS 2 cl_l aQ l),(29,pN ii)] [] [] [] Y (cA (q := ii) (b := e0) (f := aQ) ei Z db Z Z (by omega) Z he0 ⟨Z,Z,Z⟩) ?_)))))
    refine xq 4 [.o 1,.c (pI (e0.at_ + e0.count)),.o 1,.c (pI (s.at_ + s.count))] [T Tryz.prog 98 [PV.f (aQ e0)] 0 [] (Ret (pI (e0.at_ + e0.count)) 0 []),T Tryz.prog 98 [PV.f (aQ s)] 0 [] (Ret (pI (s.at_ + s.count)) 0 [])] ?_ (hc := ⟨(eM e0 (by omega)),(eM s (by omega)),trivial⟩)
    let Y8 : Nat × PV := (9,pI (min (e0.at_ + e0.count) (s.at_ + s.count)))
    refine xk [(32,pI (e0.at_ + e0.count)),(34,pI (s.at_ + s.count))] [] [] [] Y (rC Z ⟨Z,Z,Z⟩) (xq 1 [.o 1] [] (xe [Y0,Y5,Y6,Y4,Y8] (re (sr (xp N 6 [.o 6] [bu ((min (e0.at_ + e0.count) (s.at_ + s.count)) - v)] [(36,PV.ref 0 0 none),(41,PV.f (.agg [ay v,ay ((min (e0.at_ + e0.count) (s.at_ + s.count)) - v)]))] ?_ (hc := ⟨by unfold bu; (omega),trivial⟩))))))
    refine qo N Z (bM (f := aQ) [(⟨v,(min (e0.at_ + e0.count) (s.at_ + s.count)) - v⟩ : TSpan)] ei Z db ⟨Z,by decide⟩ (by decide) Z Z Z Z ?_)
    refine qo N Z (bZ (f := aQ) (l := os) (xs := [(⟨v,(min (e0.at_ + e0.count) (s.at_ + s.count)) - v⟩ : TSpan)]) ei Z db ⟨Z,by decide,by decide⟩ (da ei Z (ct (f := aQ) Z Z)) Z Z (by (simp; omega)) ?_)
    let Y1 : Nat × Pv.Obj := (4,oB true 2 aQ (os ++ [(⟨v,(min (e0.at_ + e0.count) (s.at_ + s.count)) - v⟩ : TSpan)]))
    let Y3 : Nat × Pv.Obj := (3,oB true 2 aQ [(⟨v,(min (e0.at_ + e0.count) (s.at_ + s.count)) - v⟩ : TSpan)])
    refine qa N Z Z (aE [Y0,Y5,(6,PV.ref 4 0 none),Y4,Y8] [Y1,Y3,(1,.obj [pI v]),Y2] 5 ⟨Z,Z,Z,Z,Z,trivial⟩ Z Z (re (bk (qm N Z Z (qo N Z (aC aD Z Z Z Z Z (nb Z) ?_))))))
    refine aE [Y0,Y5,(6,PV.ref 4 0 none),Y4] [(1,.obj [pI (min (e0.at_ + e0.count) (s.at_ + s.count))]),Y1,Y3,Y2] 5 ⟨Z,Z,Z,Z,trivial⟩ Z Z (bG (aG (ak (sr (qo N Z (bp aD Z Z Z Z Z ?_))))))
    refine re (bk (qo N Z (cg aD ?_)))
    refine qo N Z (aC aD Z Z Z Z Z (nb Z) ?_)
    refine re (⟨(os ++ [(⟨v,(min (e0.at_ + e0.count) (s.at_ + s.count)) - v⟩ : TSpan)]),(min (e0.at_ + e0.count) (s.at_ + s.count)), ?_, ?_,⟨[(0,4),(1,5),(2,2)],by rw [hk]; decide,⟨⟨_,rfl,rfl,rfl⟩,⟨_,rfl,rfl,rfl⟩,⟨_,rfl,rfl,rfl⟩,⟨_,rfl,rfl,rfl⟩,trivial⟩,⟨⟨_,_,rfl,rfl,rfl,rfl⟩,⟨_,_,rfl,rfl,rfl,rfl⟩,⟨_,_,rfl,rfl,rfl,rfl⟩,trivial⟩,by rw [hk]; decide⟩⟩)
    ·refine ⟨by omega,by omega,by simp; omega, ?_⟩
     rw [hcov,iy c2 hxa he0 hxh,rT]
    · omega
   try simp only [sB] at c2
   have ee : dr l s = some os := by rw [ec,hcov,kf (by omega)]; simp
   let Y7 : ah := [(0,oB false 2 aQ os),(1,.obj [pI v]),Y2]
   refine cG (aL (aL (bq (ak (sr (qm N Z Z (qo N Z (aN 3 (pS 2 true aQ os) Y7 [] (gC os false) ?_))))))))
   exact qa N Z Z (qa N Z Z (aE [(4,pS 2 true aQ os),(5,pB true)] Y7 3 ⟨Z,Z,trivial⟩ Z Z (re (dw (s := 4) (y := pS 2 false aQ os) Z (dB) (aq (s := 4) Z (congrArg (fun z => pS 2 false aQ z) (show os = (cE l s) by simp [cE,cz,ee])) (aq (s := 5) Z (congrArg pB (show true = (cz l s) by simp [cE,cz,ee])) (w_ret fp)))))))
 have g1' := g1
 try simp only [sB] at g1'
 have es : spOk s = false := by simpa using g1
 have ec : dr l s = none := by simp [dr,es]
 refine bh (s := 13) Z (congrArg pB g1) (xp N 2 [.o 2] [] [(16,pB true)] (re (av Z (fun _ => ?_) (fun e => absurd e (by decide)))))
 exact sr (qa N Z Z (ae N Z Z (dw (s := 4) (y := pS 2 false aQ []) Z (ax 2 false) (aq (s := 4) Z (congrArg (fun z => pS 2 false aQ z) (show ([] : List TSpan) = (cE l s) by (simp [cE,cz,ec]; done))) (aq (s := 5) Z (congrArg pB (show false = (cz l s) by (simp [cE,cz,ec]; done))) (w_ret (af fp)))))))
theorem lD (l : List TSpan) (cl_l : Bool) (s : TSpan) (hl : l.length ≤ 140737488351232) :
    T Tryz.prog 77 [pS 2 cl_l aQ l,PV.f (aQ s)] 0 [] (Ret (PV.tup [pS 2 false aQ (cE l s),pB (cz l s)]) 0 []) := by
 refine bn aF (n := 71) (rs := [.tmp 4,.tmp 5]) Tryz.func77 Z Z Z Z (nb Z) ?_
 intro c N hk
 let Y4 : Nat × PV := (3,PV.ptr 0 0)
 refine sr (xm N 3 [.o 3] [] [Y4] 1 [(0,.obj (cI s))] (re (an (sr (xp N 1 [.o 1] [] [(15,PV.f (aQ s))] ?_)))))
 refine qo N Z (aO Z Z Z (w_burgageref7_Right s 2147483648 (by omega)) Z ?_)
 refine qo N Z (eO Z ?_)
 refine re (av Z (fun c1 => ?_) (fun c1 => ?_))
 ·try simp only [sB] at c1
  have es : spOk s = false := by simpa using c1
  have ec : dr l s = none := by simp [dr,es]
  exact sr (qa N Z Z (ae N Z Z (dw (s := 4) (y := pS 2 false aQ []) Z (ax 2 false) (aq (s := 4) Z (congrArg (fun z => pS 2 false aQ z) (show ([] : List TSpan) = (cE l s) by (simp [cE,cz,ec]; done))) (aq (s := 5) Z (congrArg pB (show false = (cz l s) by (simp [cE,cz,ec]; done))) (w_ret (af fp)))))))
 try simp only [sB] at c1
 have es : spOk s = true := by simpa using c1
 have hs := (cP s).1 es
 refine aw (ak (an (sr (qm N Z Z (qo N Z (ca (l := l) fa Z (cf (f := aQ) Z) ?_))))))
 refine qm N Z Z (re (aP (gu (fun (i : Nat) => i ≤ l.length ∧ ∀ j x,j < i → l[j]? = some x → spOk x = true) (fun (i : Nat) => [(0,pS 2 cl_l aQ l),Y4,(18,pS 2 cl_l aQ l),(19,pN l.length),(20,pN i)]) 1 (fun (i : Nat) => [(0,.obj (cI s))]) (fun (i : Nat) => l.length - i) (0) ?_ ⟨[(0,0)],by rw [hk]; decide,⟨⟨_,rfl,rfl,rfl⟩,⟨_,rfl,rfl,rfl⟩,⟨_,rfl,rfl,rfl⟩,⟨_,rfl,rfl,rfl⟩,⟨_,rfl,rfl,rfl⟩,trivial⟩,⟨⟨_,_,rfl,rfl,rfl,rfl⟩,trivial⟩,by rw [hk]; decide⟩ ?_)))
 · exact ⟨Nat.zero_le _,fun j x hj => by omega⟩
 ·intro i hI
  obtain ⟨hi,hall⟩ := hI
  refine sr (qo N Z (cZ Z Z ?_))
  refine re (an (av Z (fun c2 => ?_) (fun c2 => ?_)))
  ·try simp only [sB] at c2
   refine aw (ak (an (aP (sr ?_))))
   obtain ⟨e1,he1⟩ := bl l (i := i) (by omega)
   refine qo N Z (cA (q := i) (b := e1) (f := aQ) fa Z dy Z Z (by omega) Z he1 ?_)
   refine xm N 3 [.o 3] [] [(7,PV.ptr 1 0)] 2 [(1,.obj (cI e1)),(0,.obj (cI s))] (re (sr (xp N 1 [.o 1] [] [(24,PV.f (aQ e1))] (qo N Z (aO Z Z Z (w_burgageref7_Right e1 2147483648 (by omega)) Z ?_)))))
   refine qo N Z (eO Z ?_)
   refine re (av Z (fun c3 => ?_) (fun c3 => ?_))
   ·try simp only [sB] at c3
    have ec : dr l s = none := by unfold dr; rw [if_neg]; rintro ⟨_,h⟩; exact absurd (h e1 (List.mem_of_getElem? he1)) (by simpa using c3)
    refine sr (qa N Z Z (ae N Z Z (dw (s := 4) (y := pS 2 false aQ []) Z (ax 2 false) (aq (s := 4) Z (congrArg (fun z => pS 2 false aQ z) (show ([] : List TSpan) = (cE l s) by (simp [cE,cz,ec]; done))) (aq (s := 5) Z (congrArg pB (show false = (cz l s) by (simp [cE,cz,ec]; done))) (w_ret (am (af (af ?_)))))))))
    exact am (af fp)
   try simp only [sB] at c3
   refine aw (aG (ak (bk (qo N Z (cm (a := i) (b := 1) Z Z (by omega) (by omega) (by omega) ?_)))))
   refine qm N Z Z (re (⟨(i + 1), ?_, ?_,⟨[(0,0)],by rw [hk]; decide,⟨⟨_,rfl,rfl,rfl⟩,⟨_,rfl,rfl,rfl⟩,⟨_,rfl,rfl,rfl⟩,⟨_,rfl,rfl,rfl⟩,⟨_,rfl,rfl,rfl⟩,trivial⟩,⟨⟨_,_,rfl,rfl,rfl,rfl⟩,trivial⟩,by rw [hk]; decide⟩⟩))
   ·refine ⟨by omega,fun j x hj hx => ?_⟩
    by_cases hji : j < i
    · exact hall j x hji hx
    · obtain rfl : j = i := by omega
      rw [he1] at hx; cases hx; simpa using c3
   · omega
  try simp only [sB] at c2
  have hg : ∀ x ∈ l,spOk x = true := by intro x hx; obtain ⟨j,hj⟩ := List.getElem?_of_mem hx; exact hall j x (by have := oc hj; omega) hj
  have ec : dr l s = dZ l (s.at_ + s.count) s.at_ := by unfold dr; rw [if_pos ⟨es,hg⟩]
  refine cG (aL (aL (bq (ak (sr (ae N Z Z (an (aP (dD (s := 8) (sz := 2) Z ?_)))))))))
  let Y3 : Nat × PV := (0,pS 2 cl_l aQ l)
  let Y7 : Nat × PV := (8,PV.ref 1 0 none)
  refine iP (fun (ua : Int) (uc : Int) (os : List TSpan) => s.at_ ≤ ua ∧ ua + uc = s.at_ + s.count ∧ 0 ≤ uc ∧ (os.length : Int) ≤ ua - s.at_ ∧ dZ l (s.at_ + s.count) s.at_ = (dZ l (s.at_ + s.count) ua).map (os ++ ·)) (fun (ua : Int) (uc : Int) (os : List TSpan) => [Y3,Y4,Y7]) 2 (fun (ua : Int) (uc : Int) (os : List TSpan) => [(0,.obj [pI ua,pI uc]),(1,oB true 2 aQ os)]) (fun (ua : Int) (uc : Int) (os : List TSpan) => uc.toNat) (s.at_) (s.count) (([] : List TSpan)) ?_ ⟨[(0,0),(1,1)],by rw [hk]; decide,⟨⟨_,rfl,rfl,rfl⟩,⟨_,rfl,rfl,rfl⟩,⟨_,rfl,rfl,rfl⟩,trivial⟩,⟨⟨_,_,rfl,rfl,rfl,rfl⟩,⟨_,_,rfl,rfl,rfl,rfl⟩,trivial⟩,by rw [hk]; decide⟩ ?_
  · exact ⟨by omega,by omega,by omega,by simp,by simp⟩
  ·intro ua uc os hI
   obtain ⟨hv1,hv2,hv3,hol,hcov⟩ := hI
   refine an (sr (xp N 3 [.o 3] [] [(30,pB (decide (0 < uc)))] (re (av Z (fun c4 => ?_) (fun c4 => ?_)))))
   ·try simp only [sB] at c4
    refine aw (ak (aP (sr (qo N Z (cg dy ?_)))))
    let Y2 : Nat × Pv.Obj := (0,.obj [pI ua,pI uc])
    let Y6 : Nat × Pv.Obj := (1,oB true 2 aQ os)
    let Y9 : Nat × Pv.Obj := (2,.obj [pI 0,pI 0])
    let Ya0 : Nat × PV := (9,PV.ptr 2 0)
    refine aE [Y3,Y4,Y7,Ya0] [Y9,Y2,Y6] 3 ⟨Z,Z,Z,Z,trivial⟩ Z Z (re (sr (ae N Z Z (an (sr (qm N Z Z (qo N Z (ca (l := l) fa Z (cf (f := aQ) Z) ?_))))))))
    refine qm N Z Z (re (aP (gu (fun (j : Nat) => j ≤ l.length ∧ ∀ k x,k < j → l[k]? = some x → (cr x ⟨ua,uc⟩ && decide ((bD x ⟨ua,uc⟩).at_ = ua)) = false) (fun (j : Nat) => [Y3,Y4,Y7,Ya0,(10,pB false),(31,pS 2 cl_l aQ l),(32,pN l.length),(33,pN j)]) 3 (fun (j : Nat) => [Y2,Y6,Y9]) (fun (j : Nat) => l.length - j) (0) ?_ ⟨[(0,0),(1,1),(2,2)],by rw [hk]; decide,⟨⟨_,rfl,rfl,rfl⟩,⟨_,rfl,rfl,rfl⟩,⟨_,rfl,rfl,rfl⟩,⟨_,rfl,rfl,rfl⟩,⟨_,rfl,rfl,rfl⟩,⟨_,rfl,rfl,rfl⟩,⟨_,rfl,rfl,rfl⟩,⟨_,rfl,rfl,rfl⟩,trivial⟩,⟨⟨_,_,rfl,rfl,rfl,rfl⟩,⟨_,_,rfl,rfl,rfl,rfl⟩,⟨_,_,rfl,rfl,rfl,rfl⟩,trivial⟩,by rw [hk]; decide⟩ ?_)))
    · exact ⟨Nat.zero_le _,fun k x hk => by omega⟩
    ·intro j hI
     obtain ⟨hj,hno⟩ := hI
     refine sr (qo N Z (cZ Z Z ?_))
     refine re (an (av Z (fun c5 => ?_) (fun c5 => ?_)))
     ·try simp only [sB] at c5
      refine aw (ak (an (aP (sr ?_))))
      obtain ⟨e2,he2⟩ := bl l (i := j) (by omega)
      refine qo N Z (cA (q := j) (b := e2) (f := aQ) fa Z dy Z Z (by omega) Z he2 ?_)
      let Y8 : Nat × Pv.Obj := (3,.obj (cI e2))
      refine xm N 3 [.o 3] [] [(12,PV.ptr 3 0)] 4 [Y8,Y2,Y6,Y9] (re (sr (xp N 2 [.o 2] [] [(38,PV.f (aQ e2)),(39,PV.f (.agg [ay ua,ay uc]))] (qo N Z (aO Z Z Z (iT e2 (⟨ua,uc⟩ : TSpan)) Z ?_)))))
      refine qm N Z Z (qo N Z (cX Z Z ?_))
      refine qo N Z (cX Z Z ?_)
      refine qo N Z (cg dy ?_)
      refine qo N Z (aC dy Z Z Z Z Z (nb Z) ?_)
      let Y : Nat × Pv.Obj := (4,.obj [pI ((bD e2 (⟨ua,uc⟩ : TSpan)).at_),pI ((bD e2 (⟨ua,uc⟩ : TSpan)).count)])
      refine qa N Z Z (aE [Y3,Y4,Y7,Ya0,(10,pB false),(13,PV.ptr 4 0),(14,pB (cr e2 (⟨ua,uc⟩ : TSpan))),(31,pS 2 cl_l aQ l),(32,pN l.length),(33,pN j)] [Y,Y8,Y2,Y6,Y9] 5 ⟨Z,Z,Z,Z,Z,Z,Z,Z,Z,Z,trivial⟩ Z Z (re (sr (qm N Z Z (qm N Z Z (bS aF N Z Z Z (fun g1 => ?_) (fun g1 => ?_)))))))
      ·have g1' := g1
       try simp only [sB] at g1'
       refine qo N Z (aX dy Z Z aD (by decide) Z ?_)
       let Y1 : Nat × PV := (49,pB (decide ((bD e2 (⟨ua,uc⟩ : TSpan)).at_ = ua)))
       let Y5 : Nat × PV := (46,pI ((bD e2 (⟨ua,uc⟩ : TSpan)).at_))
       refine bh (s := 44) Z (congrArg pB g1) (xp N 5 [.o 5] [] [Y5,(47,PV.ptr 0 0),(48,pI ua),Y1,(50,pB (decide ((bD e2 (⟨ua,uc⟩ : TSpan)).at_ = ua)))] (re (av Z (fun c6 => ?_) (fun c6 => ?_))))
       ·try simp only [sB] at c6
        have hg2 := hg e2 (List.mem_of_getElem? he2)
        have eu : spOk ⟨ua,uc⟩ = true := (cP _).2 (by simp only; omega)
        have hp : (cr e2 ⟨ua,uc⟩ && decide ((bD e2 ⟨ua,uc⟩).at_ = ua)) = true := by simp [g1,c6]
        have hpv := ul hg2 eu hp
        have hcount : (bD e2 ⟨ua,uc⟩).count = min (e2.at_ + e2.count) (ua + uc) - ua := by rw [hpv]
        have hp2 := hp
        rw [oQ hg2 eu] at hp2
        have hp3 := hp2
        simp only [Bool.and_eq_true,decide_eq_true_eq] at hp3
        have hxh : ua < e2.at_ + e2.count := hp3.2
        have hxa : idxAt l ua = some j := jg (fun k x hk hx => by rw [← oQ (hg x (List.mem_of_getElem? hx)) eu]; exact hno k x hk hx) he2 hp2
        have hmn : min (e2.at_ + e2.count) (ua + uc) = min (e2.at_ + e2.count) (s.at_ + s.count) := by omega
        have hq1 : ua + (bD e2 ⟨ua,uc⟩).count = min (e2.at_ + e2.count) (s.at_ + s.count) := by omega
        have hq2 : bD e2 ⟨ua,uc⟩ = ⟨ua,min (e2.at_ + e2.count) (s.at_ + s.count) - ua⟩ := by rw [hpv,hmn]
        refine sr (qo N Z (bj dy Z Z Z (nb Z) ?_))
        refine qo N Z (aC dy Z Z Z Z Z (nb Z) ?_)
        let Y0 : Nat × Pv.Obj := (2,.obj [pI ((bD e2 (⟨ua,uc⟩ : TSpan)).at_),pI ((bD e2 (⟨ua,uc⟩ : TSpan)).count)])
        refine qa N Z Z (aE [Y3,Y4,Y7,Ya0,(10,pB true),(45,PV.ptr 4 0),Y5,(47,PV.ptr 0 0),(48,pI ua),Y1] [Y0,Y,Y8,Y2,Y6] 5 ⟨Z,Z,Z,Z,Z,Z,Z,Z,Z,Z,trivial⟩ Z Z (re (cG (l9 (by decide) (aL (aL (bq (ak (an ?_)))))))))
        refine sr (xp N 2 [.o 2] [] [(54,pB (!true))] (re (av Z (fun e => absurd e (by decide)) (fun _ => ?_))))
        refine aw (ak (sr (qm N Z Z (qo N Z (bj dy Z Z Z (nb Z) ?_)))))
        refine qo N Z (bM (f := aQ) [(bD e2 (⟨ua,uc⟩ : TSpan))] fa Z dy ⟨Z,by decide⟩ (by decide) Z Z Z Z ?_)
        refine qo N Z (bZ (f := aQ) (l := os) (xs := [(bD e2 (⟨ua,uc⟩ : TSpan))]) fa Z dy ⟨Z,by decide,by decide⟩ (da fa Z (ct (f := aQ) Z Z)) Z Z (by (simp; omega)) ?_)
        let Ya : Nat × Pv.Obj := (6,oB true 2 aQ (os ++ [(bD e2 (⟨ua,uc⟩ : TSpan))]))
        let Ya1 : Nat × Pv.Obj := (5,oB true 2 aQ [(bD e2 (⟨ua,uc⟩ : TSpan))])
        refine qa N Z Z (aE [Y3,Y4,(8,PV.ref 6 0 none),Ya0,(45,PV.ptr 4 0),Y5,(47,PV.ptr 0 0),(48,pI ua),Y1] [Ya,Ya1,Y0,Y,Y8,Y2] 7 ⟨Z,Z,Z,Z,Z,Z,Z,Z,Z,trivial⟩ Z Z (re (bk (xm N 12 [.o 12] [bu (ua + ((bD e2 (⟨ua,uc⟩ : TSpan)).count)),bu (uc - ((bD e2 (⟨ua,uc⟩ : TSpan)).count))] [] 7 [(0,.obj [pI (ua + ((bD e2 (⟨ua,uc⟩ : TSpan)).count)),pI (uc - ((bD e2 (⟨ua,uc⟩ : TSpan)).count))]),Ya,Ya1,Y0,Y,Y8] ?_ (hc := ⟨by unfold bu; (omega),by unfold bu; (omega),trivial⟩)))))
        refine bG (aG (ak (⟨(ua + ((bD e2 (⟨ua,uc⟩ : TSpan)).count)),(uc - ((bD e2 (⟨ua,uc⟩ : TSpan)).count)),(os ++ [(bD e2 (⟨ua,uc⟩ : TSpan))]), ?_, ?_,⟨[(0,0),(1,6)],by rw [hk]; decide,⟨⟨_,rfl,rfl,rfl⟩,⟨_,rfl,rfl,rfl⟩,⟨_,rfl,rfl,rfl⟩,trivial⟩,⟨⟨_,_,rfl,rfl,rfl,rfl⟩,⟨_,_,rfl,rfl,rfl,rfl⟩,trivial⟩,by rw [hk]; decide⟩⟩)))
        ·refine ⟨by omega,by omega,by omega,by simp; omega, ?_⟩
         rw [hcov,iy (e := s.at_ + s.count) (by omega) hxa he2 hxh,rT,hq1,hq2]
        · omega
       try simp only [sB] at c6
       refine aw (aG (ak (bk (qo N Z (cm (a := j) (b := 1) Z Z (by omega) (by omega) (by omega) ?_)))))
       refine qm N Z Z (re (⟨(j + 1), ?_, ?_,⟨[(0,0),(1,1),(2,2)],by rw [hk]; decide,⟨⟨_,rfl,rfl,rfl⟩,⟨_,rfl,rfl,rfl⟩,⟨_,rfl,rfl,rfl⟩,⟨_,rfl,rfl,rfl⟩,⟨_,rfl,rfl,rfl⟩,⟨_,rfl,rfl,rfl⟩,⟨_,rfl,rfl,rfl⟩,⟨_,rfl,rfl,rfl⟩,trivial⟩,⟨⟨_,_,rfl,rfl,rfl,rfl⟩,⟨_,_,rfl,rfl,rfl,rfl⟩,⟨_,_,rfl,rfl,rfl,rfl⟩,trivial⟩,by rw [hk]; decide⟩⟩))
       ·refine ⟨by omega,fun k x hk hx => ?_⟩
        by_cases hkj : k < j
        · exact hno k x hkj hx
        · obtain rfl : k = j := by omega
          rw [he2] at hx; cases hx; simp_all
       · omega
      have g1' := g1
      try simp only [sB] at g1'
      refine bh (s := 44) Z (congrArg pB g1) (xp N 5 [.o 5] [] [(46,aZ),(47,aZ),(48,aZ),(49,aZ),(50,pB false)] (re (av Z (fun e => absurd e (by decide)) (fun _ => ?_))))
      refine aw (aG (ak (bk (qo N Z (cm (a := j) (b := 1) Z Z (by omega) (by omega) (by omega) ?_)))))
      refine qm N Z Z (re (⟨(j + 1), ?_, ?_,⟨[(0,0),(1,1),(2,2)],by rw [hk]; decide,⟨⟨_,rfl,rfl,rfl⟩,⟨_,rfl,rfl,rfl⟩,⟨_,rfl,rfl,rfl⟩,⟨_,rfl,rfl,rfl⟩,⟨_,rfl,rfl,rfl⟩,⟨_,rfl,rfl,rfl⟩,⟨_,rfl,rfl,rfl⟩,⟨_,rfl,rfl,rfl⟩,trivial⟩,⟨⟨_,_,rfl,rfl,rfl,rfl⟩,⟨_,_,rfl,rfl,rfl,rfl⟩,⟨_,_,rfl,rfl,rfl,rfl⟩,trivial⟩,by rw [hk]; decide⟩⟩))
      ·refine ⟨by omega,fun k x hk hx => ?_⟩
       by_cases hkj : k < j
       · exact hno k x hkj hx
       · obtain rfl : k = j := by omega
         rw [he2] at hx; cases hx; simp_all
      · omega
     try simp only [sB] at c5
     have eu : spOk ⟨ua,uc⟩ = true := (cP _).2 (by simp only; omega)
     have hnone : idxAt l ua = none := jh (fun k x hk hx => by rw [← oQ (hg x (List.mem_of_getElem? hx)) eu]; exact hno k x (by omega) hx)
     have en : dr l s = none := by rw [ec,hcov,oo (by omega) hnone]; rfl
     refine cG (aL (aL (bq (ak (an (sr ?_))))))
     refine xp N 2 [.o 2] [] [(54,pB (!false))] (re (av Z (fun _ => ?_) (fun e => absurd e (by decide))))
     refine sr (qa N Z Z (ae N Z Z (dw (s := 4) (y := pS 2 false aQ []) Z (ax 2 false) (aq (s := 4) Z (congrArg (fun z => pS 2 false aQ z) (show ([] : List TSpan) = (cE l s) by (simp [cE,cz,en]; done))) (aq (s := 5) Z (congrArg pB (show false = (cz l s) by (simp [cE,cz,en]; done))) (w_ret (af (am (af ?_)))))))))
     exact am (af fp)
   try simp only [sB] at c4
   have ee : dr l s = some os := by rw [ec,hcov,kf (by omega)]; simp
   refine cG (aL (aL (bq (ak (sr ?_)))))
   exact xp N 3 [.o 3] [] [(4,PV.ref 1 0 none),(5,pB true)] (re (gE (s := 4) (f := aQ) Z Z gG (aq (s := 4) Z (congrArg (fun z => pS 2 false aQ z) (show os = (cE l s) by simp [cE,cz,ee])) (aq (s := 5) Z (congrArg pB (show true = (cz l s) by simp [cE,cz,ee])) (w_ret fp)))))
abbrev vSp (w : TWindow) : TSpan := ⟨w.virtual,w.count⟩
abbrev pSp (w : TWindow) : TSpan := ⟨w.physical,w.count⟩
def winR (w : TWindow) : Bool := ((decide (0 ≤ w.space) && decide (w.space ≤ 3)) && ce (vSp w) 65536) && ce (pSp w) 512
theorem iA (w : TWindow) : winR w = true ↔ (0 ≤ w.space ∧ w.space ≤ 3) ∧ (0 ≤ w.virtual ∧ 1 ≤ w.count ∧ w.virtual ≤ 65536 ∧ w.count ≤ 65536 - w.virtual) ∧ (0 ≤ w.physical ∧ 1 ≤ w.count ∧ w.physical ≤ 512 ∧ w.count ≤ 512 - w.physical) := by
  simp only [winR,ce,Bool.and_eq_true,decide_eq_true_eq,and_assoc]
theorem yq {w : TWindow} (h : winR w = true) : spOk (vSp w) = true ∧ spOk (pSp w) = true := by
  have h2 := (iA w).1 h
  exact ⟨(cP _).2 (by simp only; omega),(cP _).2 (by simp only; omega)⟩
def ye (s : Int) (w : TWindow) : Bool := winR w && decide (w.space = s)
def ofL (l : List TWindow) (s : Int) : List TWindow := l.filter (ye s)
theorem md {l : List TWindow}{s : Int}{i : Nat}{e : TWindow} (he : l[i]? = some e) (h : (winR e && decide (e.space = s)) = true) : ofL (l.take i) s ++ [e] = ofL (l.take (i + 1)) s := by
  have h2 : ye s e = true := h
  unfold ofL
  rw [List.take_add_one,he,List.filter_append]
  simp [h2]
theorem me {l : List TWindow}{s : Int}{i : Nat}{e : TWindow} (he : l[i]? = some e) (h : (winR e && decide (e.space = s)) = false) : ofL (l.take i) s = ofL (l.take (i + 1)) s := by
  have h2 : ye s e = false := h
  unfold ofL
  rw [List.take_add_one,he,List.filter_append]
  simp [h2]
theorem mE (l : List TWindow) (s : Int) : (ofL l s).length ≤ l.length := by unfold ofL; exact List.length_filter_le _ _
theorem zo {l : List TWindow}{s : Int}{w : TWindow} (h : w ∈ ofL l s) : winR w = true ∧ w.space = s ∧ w ∈ l := by
  unfold ofL at h
  rw [List.mem_filter] at h
  simp only [ye,Bool.and_eq_true,decide_eq_true_eq] at h
  exact ⟨h.2.1,h.2.2,h.1⟩
theorem zp {l : List TWindow}{s : Int}{i : Nat}{w : TWindow} (h : (ofL l s)[i]? = some w) : winR w = true ∧ w.space = s ∧ w ∈ l := zo (List.mem_of_getElem? h)
theorem p6 (L : List TSpan) (e : Int) : ∀ (n : Nat) (v : Int) (os : List TSpan),(e - v).toNat ≤ n → dZ L e v = some os → ∀ p ∈ os,v ≤ p.at_ ∧ p.at_ + p.count ≤ e ∧ 1 ≤ p.count ∧ ∃ i x,idxAt L p.at_ = some i ∧ L[i]? = some x ∧ x.at_ ≤ p.at_ ∧ p.at_ + p.count ≤ x.at_ + x.count
  | n,v,os,hn,h,p,hp => by
    rw [dZ] at h
    split at h
    · rename_i hv
      split at h
      · cases h
      · rename_i i hi
        split at h
        · rename_i hlt
          simp only [Option.map_eq_some_iff] at h
          obtain ⟨t,h1,rfl⟩ := h
          match n,hn with
          | 0,hn => omega
          | n + 1,hn =>
            rcases List.mem_cons.1 hp with rfl|hp
            · have hi2 := hi
              unfold idxAt at hi2
              rw [List.findIdx?_eq_some_iff_getElem] at hi2
              obtain ⟨hl,hc,_⟩ := hi2
              simp only [Bool.and_eq_true,decide_eq_true_eq] at hc
              have hx : L[i]? = some L[i] := by simp [hl]
              have hg : L.getD i lA = L[i] := by simp [List.getD_eq_getElem?_getD,hx]
              rw [hg] at hlt ⊢
              exact ⟨by simp only; omega,by simp only; omega,by simp only; omega,i,L[i],hi,hx,hc.1,by simp only; omega⟩
            · have := p6 L e n _ t (by omega) h1 p hp
              exact ⟨by omega,this.2⟩
        · cases h
    · cases h; cases hp
theorem uB {L : List TSpan}{s p : TSpan} (hp : p ∈ cE L s) : spOk s = true ∧ (∀ x ∈ L,spOk x = true) ∧ s.at_ ≤ p.at_ ∧ p.at_ + p.count ≤ s.at_ + s.count ∧ 1 ≤ p.count ∧ ∃ i x,idxAt L p.at_ = some i ∧ L[i]? = some x ∧ x.at_ ≤ p.at_ ∧ p.at_ + p.count ≤ x.at_ + x.count := by
  unfold cE dr at hp
  split at hp
  · rename_i h
    cases hc : dZ L (s.at_ + s.count) s.at_ with
    | none => rw [hc] at hp; cases hp
    | some os => rw [hc] at hp; exact ⟨h.1,h.2,p6 L _ _ _ os (Nat.le_refl _) hc p hp⟩
  · cases hp
theorem vB {x p : TSpan} (hx : spOk x = true) (hp : 0 ≤ p.at_ ∧ p.at_ ≤ 2147483647) : spIn ⟨p.at_,1⟩ x = (decide (x.at_ ≤ p.at_) && decide (p.at_ < x.at_ + x.count)) := by
  rw [Bool.eq_iff_iff,k9]
  simp only [Bool.and_eq_true,decide_eq_true_eq,hx,true_and]
  have : spOk ⟨p.at_,1⟩ = true := (cP _).2 (by simp only; omega)
  rw [this]
  simp only [true_and]
  omega
theorem xy {x p : TSpan} (h : spIn p x = true) : spIn ⟨p.at_,1⟩ x = true := by
  obtain ⟨h1,h2,h3,h4⟩ := (k9 p x).1 h
  have h5 := (cP p).1 h1
  exact (k9 _ _).2 ⟨(cP _).2 (by simp only; omega),h2,by simp only; omega,by simp only; omega⟩
def jb (ws : List TWindow) (p : TSpan) : TPiece := match ws.find? (fun w => spIn ⟨p.at_,1⟩ (vSp w)) with
  | some w => ⟨p.at_,w.physical + p.at_ - w.virtual,p.count⟩
  | none => ⟨0,0,0⟩
def d5 (l : List TWindow) (s a n : Int) : List TSpan := cE ((ofL l s).map vSp) ⟨a,n⟩
def mapL (l : List TWindow) (s a n : Int) : List TPiece := (d5 l s a n).map (jb (ofL l s))
def bN (l : List TWindow) (s a n : Int) : Bool := cz ((ofL l s).map vSp) ⟨a,n⟩
theorem nA (l : List TWindow) (s a n : Int) : (d5 l s a n).length ≤ 2147483648 := qq _ _
theorem iB {l : List TWindow}{s a n : Int}{p : TSpan} (hp : p ∈ d5 l s a n) : ∃ i w,(ofL l s)[i]? = some w ∧ ((ofL l s).map vSp).findIdx? (fun x => spIn ⟨p.at_,1⟩ x) = some i ∧ (∀ j u,j < i → (ofL l s)[j]? = some u → spIn ⟨p.at_,1⟩ (vSp u) = false) ∧
    spIn p (vSp w) = true ∧ jb (ofL l s) p = ⟨p.at_,w.physical + p.at_ - w.virtual,p.count⟩ ∧ winR w = true ∧ w.space = s ∧ w ∈ l ∧ w.virtual ≤ p.at_ ∧ p.at_ + p.count ≤ w.virtual + w.count ∧ 1 ≤ p.count ∧ a ≤ p.at_ ∧ p.at_ + p.count ≤ a + n := by
  obtain ⟨h1,h2,h3,h4,h5,i,x,hi,hx,h6,h7⟩ := uB hp
  have hs := (cP _).1 h1
  simp only at hs h3 h4
  rw [List.getElem?_map] at hx
  obtain ⟨w,hw,rfl⟩ := Option.map_eq_some_iff.1 hx
  obtain ⟨m1,m2,m3⟩ := zp hw
  have hsp := (yq m1).1
  have hb := (cP _).1 hsp
  simp only at h6 h7 hb
  have hall : ∀ x ∈ (ofL l s).map vSp,spIn ⟨p.at_,1⟩ x = (decide (x.at_ ≤ p.at_) && decide (p.at_ < x.at_ + x.count)) := fun x hx => vB (h2 x hx) (by omega)
  have hf : ((ofL l s).map vSp).findIdx? (fun x => spIn ⟨p.at_,1⟩ x) = some i := by
    unfold idxAt at hi
    rw [List.findIdx?_eq_some_iff_getElem] at hi ⊢
    obtain ⟨q1,q2,q3⟩ := hi
    refine ⟨q1,by rw [hall _ (List.getElem_mem _)]; exact q2,fun j hj => ?_⟩
    rw [hall _ (List.getElem_mem _)]
    exact q3 j hj
  have hin1 : spIn ⟨p.at_,1⟩ (vSp w) = true := by rw [vB hsp (by omega)]; simp only [Bool.and_eq_true,decide_eq_true_eq]; omega
  have hno : ∀ j u,j < i → (ofL l s)[j]? = some u → spIn ⟨p.at_,1⟩ (vSp u) = false := by
    intro j u hj hu
    have hf2 := hf
    rw [List.findIdx?_eq_some_iff_getElem] at hf2
    obtain ⟨q1,q2,q3⟩ := hf2
    have := q3 j hj
    have hg : ((ofL l s).map vSp)[j]? = some (vSp u) := by rw [List.getElem?_map,hu]; rfl
    have hg2 := List.getElem?_eq_some_iff.1 hg
    obtain ⟨_,hg3⟩ := hg2
    rw [hg3] at this
    simpa using this
  have hfi : (ofL l s).find? (fun w => spIn ⟨p.at_,1⟩ (vSp w)) = some w := by
    rw [List.find?_eq_some_iff_getElem]
    obtain ⟨g1,g2⟩ := List.getElem?_eq_some_iff.1 hw
    refine ⟨hin1,i,g1,g2,fun j hj => ?_⟩
    have := hno j ((ofL l s)[j]) hj (by simp [show j < (ofL l s).length by omega])
    simp [this]
  refine ⟨i,w,hw,hf,hno, ?_, ?_,m1,m2,m3,h6,h7,h5,h3,h4⟩
  · exact (k9 _ _).2 ⟨(cP _).2 (by omega),hsp,h6,h7⟩
  · unfold jb; rw [hfi]
theorem sS {l : List TWindow}{s a n : Int}{p : TSpan} (hp : p ∈ d5 l s a n) {j : Nat}{w : TWindow} (hw : (ofL l s)[j]? = some w) (h : spIn p (vSp w) = true) (hno : ∀ k u,k < j → (ofL l s)[k]? = some u → spIn p (vSp u) = false) :
    jb (ofL l s) p = ⟨p.at_,w.physical + p.at_ - w.virtual,p.count⟩ ∧ winR w = true ∧ w.virtual ≤ p.at_ ∧ p.at_ + p.count ≤ w.virtual + w.count ∧ 1 ≤ p.count := by
  obtain ⟨i,u,hu,_,hn,hin,hpc,m1,m2,m3,v1,v2,v3,_⟩ := iB hp
  have hij : i = j := by
    rcases Nat.lt_trichotomy i j with h1|h1|h1
    · rw [hno i u h1 hu] at hin; cases hin
    · exact h1
    · have := hn j w h1 hw
      rw [xy h] at this; cases this
  subst hij
  rw [hu] at hw
  cases hw
  exact ⟨hpc,m1,v1,v2,v3⟩
theorem piece_there {l : List TWindow}{s a n : Int}{p : TSpan} (hp : p ∈ d5 l s a n) (hno : ∀ k u,k < (ofL l s).length → (ofL l s)[k]? = some u → spIn p (vSp u) = false) : False := by
  obtain ⟨i,u,hu,_,hn,hin,_⟩ := iB hp
  have := hno i u (List.getElem?_eq_some_iff.1 hu).1 hu
  rw [this] at hin; cases hin
def um (a b : TWindow) : Bool := ((cr (pSp a) (pSp b) && decide (a.space = b.space)) && winR a) && winR b
def oq (a b : TWindow) : Bool := um a b || (((cr (vSp a) (vSp b) && decide (a.space = b.space)) && winR a) && winR b)
def xT (l : List TWindow) : Prop := ∀ (i j : Nat) a b,j < i → l[i]? = some a → l[j]? = some b → oq a b = false
def Ch : TWindow := ⟨0,0,0,0⟩
def ui (l : List TWindow) : Bool := (List.range l.length).all fun i => (List.range i).all fun j => !(oq (l.getD i Ch) (l.getD j Ch))
theorem xh (l : List TWindow) : ui l = true ↔ xT l := by
  unfold ui xT
  simp only [List.all_eq_true,List.mem_range,Bool.not_eq_true']
  constructor
  · intro h i j a b hj ha hb
    have := h i (List.getElem?_eq_some_iff.1 ha).1 j hj
    rw [List.getD_eq_getElem?_getD,List.getD_eq_getElem?_getD,ha,hb] at this
    exact this
  · intro h i hi j hj
    rw [List.getD_eq_getElem?_getD,List.getD_eq_getElem?_getD,List.getElem?_eq_getElem hi,List.getElem?_eq_getElem (show j < l.length by omega)]
    exact h i j _ _ hj (List.getElem?_eq_getElem hi) (List.getElem?_eq_getElem (by omega))
theorem zn {l : List TWindow} (h : xT l) : ui l = true := (xh l).2 h
theorem w_window_virtual (w : TWindow)  :
    T Tryz.prog 85 [PV.f (aR w)] 0 [] (Ret (PV.f (aQ (vSp w))) 0 []) := by
 refine bn aF (n := 8) (rs := [.cell 2 138]) Tryz.func85 Z Z Z Z (nb Z) ?_
 intro c N hk
 refine sr (qo N Z (cu Z Z ?_))
 refine qo N Z (cg db ?_)
 refine aE [(1,PV.ptr 0 0),(2,PV.ptr 1 0)] [(1,.obj [pI 0,pI 0]),(0,.obj (eT w))] 2 ⟨Z,Z,trivial⟩ Z Z (re (sr (xm N 6 [.o 6] [] [] 2 [(1,.obj [pI w.virtual,pI w.count]),(0,.obj (eT w))] (re (bH (n := 1) (ds := cI (vSp w)) Z ⟨le_of_eq (congrArg pI (show w.virtual = ((vSp w).at_) by rfl)),le_of_eq (congrArg pI (show w.count = ((vSp w).count) by rfl)),trivial⟩ ?_)))))
 exact w_ret fp
theorem w_window_physical (w : TWindow)  :
    T Tryz.prog 103 [PV.f (aR w)] 0 [] (Ret (PV.f (aQ (pSp w))) 0 []) := by
 refine bn aF (n := 8) (rs := [.cell 2 138]) Tryz.func103 Z Z Z Z (nb Z) ?_
 intro c N hk
 refine sr (qo N Z (cu Z Z ?_))
 refine qo N Z (cg db ?_)
 refine aE [(1,PV.ptr 0 0),(2,PV.ptr 1 0)] [(1,.obj [pI 0,pI 0]),(0,.obj (eT w))] 2 ⟨Z,Z,trivial⟩ Z Z (re (sr (xm N 6 [.o 6] [] [] 2 [(1,.obj [pI w.physical,pI w.count]),(0,.obj (eT w))] (re (bH (n := 1) (ds := cI (pSp w)) Z ⟨le_of_eq (congrArg pI (show w.physical = ((pSp w).at_) by rfl)),le_of_eq (congrArg pI (show w.count = ((pSp w).count) by rfl)),trivial⟩ ?_)))))
 exact w_ret fp
theorem oy (w : TWindow)  :
    T Tryz.prog 94 [PV.f (aR w)] 0 [] (Ret (pB (winR w)) 0 []) := by
 refine bn aF (n := 21) (rs := [.tmp 2]) Tryz.func94 Z Z Z Z (nb Z) ?_
 intro c N hk
 refine sr (qo N Z (cu Z Z ?_))
 refine qa N Z Z (aE [(1,PV.ptr 0 0)] [(0,.obj (eT w))] 1 ⟨Z,trivial⟩ Z Z (re (sr (xp N 19 [.o 4,.b 3 [.o 3],.o 1,.b 3 [.o 1,.c (PV.f (aQ (vSp w))),.c (pB (ce (vSp w) 65536))],.o 1,.b 3 [.o 1,.c (PV.f (aQ (pSp w))),.c (pB (ce (pSp w) 512))],.o 1] [((decide (0 ≤ w.space)) && (decide (w.space ≤ 3))) = true → AllP [T Tryz.prog 85 [PV.f (aR w)] 0 [] (Ret (PV.f (aQ (vSp w))) 0 []),T Tryz.prog 102 [PV.f (aQ (vSp w)),pI 65536] 0 [] (Ret (pB (ce (vSp w) 65536)) 0 [])],(((decide (0 ≤ w.space)) && (decide (w.space ≤ 3))) && (ce (vSp w) 65536)) = true → AllP [T Tryz.prog 103 [PV.f (aR w)] 0 [] (Ret (PV.f (aQ (pSp w))) 0 []),T Tryz.prog 102 [PV.f (aQ (pSp w)),pI 512] 0 [] (Ret (pB (ce (pSp w) 512)) 0 [])]] [(2,pB ((((decide (0 ≤ w.space)) && (decide (w.space ≤ 3))) && (ce (vSp w) 65536)) && (ce (pSp w) 512)))] ?_ (hc := ⟨by intro hq; (try simp only [sB] at hq); exact ⟨(w_window_virtual w),(w_span_Right (vSp w) 65536 (by omega)),trivial⟩,by intro hq; (try simp only [sB] at hq); exact ⟨(w_window_physical w),(w_span_Right (pSp w) 512 (by omega)),trivial⟩,trivial⟩)))))
 exact re (aq (s := 2) Z (congrArg pB (show ((((decide (0 ≤ w.space)) && (decide (w.space ≤ 3))) && (ce (vSp w) 65536)) && (ce (pSp w) 512)) = (winR w) by rfl)) (w_ret fp))
theorem kP (w : TWindow)  :
    T Tryz.prog 76 [PV.f (aR w)] 0 [] (Ret (pB (winR w)) 0 []) := by
 refine bn aF (n := 27) (rs := [.tmp 2]) Tryz.func76 Z Z Z Z (nb Z) ?_
 intro c N hk
 refine sr (qo N Z (cu Z Z ?_))
 refine qa N Z Z (aE [(1,PV.ptr 0 0)] [(0,.obj (eT w))] 1 ⟨Z,trivial⟩ Z Z (re (sr (xp N 25 [.o 4,.b 3 [.o 3],.o 1,.b 6 [.o 5,.c (pB (ce (⟨w.virtual,w.count⟩ : TSpan) 65536))],.o 1,.b 6 [.o 5,.c (pB (ce (⟨w.physical,w.count⟩ : TSpan) 512))],.o 1] [((decide (0 ≤ w.space)) && (decide (w.space ≤ 3))) = true → AllP [T Tryz.prog 91 [PV.f (.agg [ay w.virtual,ay w.count]),pI 65536] 0 [] (Ret (pB (ce (⟨w.virtual,w.count⟩ : TSpan) 65536)) 0 [])],(((decide (0 ≤ w.space)) && (decide (w.space ≤ 3))) && (ce (⟨w.virtual,w.count⟩ : TSpan) 65536)) = true → AllP [T Tryz.prog 91 [PV.f (.agg [ay w.physical,ay w.count]),pI 512] 0 [] (Ret (pB (ce (⟨w.physical,w.count⟩ : TSpan) 512)) 0 [])]] [(2,pB ((((decide (0 ≤ w.space)) && (decide (w.space ≤ 3))) && (ce (⟨w.virtual,w.count⟩ : TSpan) 65536)) && (ce (⟨w.physical,w.count⟩ : TSpan) 512)))] ?_ (hc := ⟨by intro hq; (try simp only [sB] at hq); exact ⟨(w_burgageref7_Right (⟨w.virtual,w.count⟩ : TSpan) 65536 (by omega)),trivial⟩,by intro hq; (try simp only [sB] at hq); exact ⟨(w_burgageref7_Right (⟨w.physical,w.count⟩ : TSpan) 512 (by omega)),trivial⟩,trivial⟩)))))
 exact re (aq (s := 2) Z (congrArg pB (show ((((decide (0 ≤ w.space)) && (decide (w.space ≤ 3))) && (ce (⟨w.virtual,w.count⟩ : TSpan) 65536)) && (ce (⟨w.physical,w.count⟩ : TSpan) 512)) = (winR w) by rfl)) (w_ret fp))
theorem sx (l : List TWindow) (cl_l : Bool) (space : Int) (hl : l.length ≤ 1000) :
    T Tryz.prog 84 [pS 4 cl_l aR l,pI space] 0 [] (Ret (PV.ref 0 0 none) 1 [(0,oB true 4 aR (ofL l space))]) := by
 refine bn aF (n := 28) (rs := [.tmp 4]) Tryz.func84 Z Z Z Z (nb Z) ?_
 intro c N hk
 refine sr (ae N Z Z (sr (ae N Z Z (an (sr (qm N Z Z (qo N Z (ca (l := l) cT Z (cf (f := aR) Z) ?_))))))))
 refine qm N Z Z (re (aP (dD (s := 5) (sz := 4) Z (gf (fun (os : List TWindow) (i : Nat) => i ≤ l.length ∧ os = ofL (l.take i) space) (fun (os : List TWindow) (i : Nat) => [(1,pI space),(5,PV.ref 0 0 none),(8,pS 4 cl_l aR l),(9,pN l.length),(10,pN i)]) 1 (fun (os : List TWindow) (i : Nat) => [(0,oB true 4 aR os)]) (fun (os : List TWindow) (i : Nat) => l.length - i) (([] : List TWindow)) (0) ?_ ⟨[(0,0)],by rw [hk]; decide,⟨⟨_,rfl,rfl,rfl⟩,⟨_,rfl,rfl,rfl⟩,⟨_,rfl,rfl,rfl⟩,⟨_,rfl,rfl,rfl⟩,⟨_,rfl,rfl,rfl⟩,trivial⟩,⟨⟨_,_,rfl,rfl,rfl,rfl⟩,trivial⟩,by rw [hk]; decide⟩ ?_))))
 · exact ⟨by omega,rfl⟩
 ·intro os i hI
  obtain ⟨hi,hos⟩ := hI
  have hol : os.length ≤ 1000 := by rw [hos]; exact Nat.le_trans (mE _ _) (by simp; omega)
  refine sr (qo N Z (cZ Z Z ?_))
  refine re (an (av Z (fun c1 => ?_) (fun c1 => ?_)))
  ·try simp only [sB] at c1
   refine aw (ak (an (aP (sr ?_))))
   obtain ⟨e1,he1⟩ := bl l (i := i) (by omega)
   refine qo N Z (cA (q := i) (b := e1) (f := aR) cT Z cS Z Z (by omega) Z he1 ?_)
   refine xm N 3 [.o 3] [] [(7,PV.ptr 1 0)] 2 [(1,.obj (eT e1)),(0,oB true 4 aR os)] (re (sr (xp N 1 [.o 1] [] [(14,PV.f (aR e1))] (qo N Z (aO Z Z Z (oy e1) Z ?_)))))
   refine xp N 6 [.o 1,.b 4 [.o 4]] [] [(21,pB ((winR e1) && (decide (e1.space = space))))] (re (av Z (fun c2 => ?_) (fun c2 => ?_)))
   ·have c2_ := c2
    try simp only [sB] at c2
    refine bk (xp N 2 [.o 2] [] [(22,PV.ref 0 0 none),(23,PV.f (aR e1))] (qo N Z (bM (f := aR) [e1] cT Z cS ⟨Z,by decide⟩ (by decide) Z Z Z Z ?_)))
    refine qo N Z (bZ (f := aR) (l := os) (xs := [e1]) cT Z cS ⟨Z,by decide,by decide⟩ (da cT Z (ct (f := aR) Z Z)) Z Z (by (simp; omega)) ?_)
    refine qa N Z Z (aE [(1,pI space),(5,PV.ref 3 0 none),(8,pS 4 cl_l aR l),(9,pN l.length),(10,pN i)] [(3,oB true 4 aR (os ++ [e1])),(2,oB true 4 aR [e1]),(1,.obj (eT e1))] 4 ⟨Z,Z,Z,Z,Z,trivial⟩ Z Z (bG (aG (ak (bk (qo N Z (cm (a := i) (b := 1) Z Z (by omega) (by omega) (by omega) ?_)))))))
    refine qm N Z Z (re (⟨(os ++ [e1]),(i + 1), ?_, ?_,⟨[(0,3)],by rw [hk]; decide,⟨⟨_,rfl,rfl,rfl⟩,⟨_,rfl,rfl,rfl⟩,⟨_,rfl,rfl,rfl⟩,⟨_,rfl,rfl,rfl⟩,⟨_,rfl,rfl,rfl⟩,trivial⟩,⟨⟨_,_,rfl,rfl,rfl,rfl⟩,trivial⟩,by rw [hk]; decide⟩⟩))
    ·(exact ⟨by omega,by rw [hos]; exact md he1 c2_⟩)
    · omega
   have c2_ := c2
   try simp only [sB] at c2
   refine aw (aG (ak (bk (qo N Z (cm (a := i) (b := 1) Z Z (by omega) (by omega) (by omega) ?_)))))
   refine qm N Z Z (re (⟨(os),(i + 1), ?_, ?_,⟨[(0,0)],by rw [hk]; decide,⟨⟨_,rfl,rfl,rfl⟩,⟨_,rfl,rfl,rfl⟩,⟨_,rfl,rfl,rfl⟩,⟨_,rfl,rfl,rfl⟩,⟨_,rfl,rfl,rfl⟩,trivial⟩,⟨⟨_,_,rfl,rfl,rfl,rfl⟩,trivial⟩,by rw [hk]; decide⟩⟩))
   ·(exact ⟨by omega,by rw [hos]; exact me he1 c2_⟩)
   · omega
  try simp only [sB] at c1
  have hoe : ofL (l.take i) space = ofL l space := by rw [List.take_of_length_le (by omega)]
  let Y : ah := [(0,oB true 4 aR (ofL l space))]
  refine cG (aL (aL (bq (ak (sr (qm N Z Z (ae N Z Z (eN (H' := Y) (congrArg (fun z => ([(0,oB true 4 aR z)] : ah)) (show os = ofL l space by rw [hos,hoe])) (w_ret ?_)))))))))
  exact bB (nx1 := 1) (H1 := Y) [(0,0)] (ret_tmp Z ret_nil) Z (by decide) ⟨⟨_,_,Z,Z,Z,Z⟩,trivial⟩ (by decide) Z ⟨Z,Z,Z⟩
theorem oz (s : TSpan) (pa : Int) (pc : Int)  :
    T Tryz.prog 88 [PV.f (aQ s),PV.ptr 0 0] 1 [(0,.obj [pI pa,pI pc])] (Ret (pB (spIn ⟨pa,1⟩ s)) 1 [(0,.obj [pI pa,pI pc])]) := by
 refine bn aF (n := 9) (rs := [.tmp 3]) Tryz.func88 Z Z Z Z (nb Z) ?_
 intro c N hk
 refine sr (qo N Z (cu Z Z ?_))
 refine qa N Z Z (aE [(1,PV.ptr 0 0),(2,PV.ptr 1 0)] [(1,.obj (cI s)),(0,.obj [pI pa,pI pc])] 2 ⟨Z,Z,trivial⟩ Z Z (re (sr (xp N 4 [.o 4] [] [(6,PV.f (.agg [ay pa,ay 1])),(7,PV.f (aQ s))] (qo N Z (aO Z Z Z (uL (⟨pa,1⟩ : TSpan) s) Z ?_))))))
 refine ae N Z Z (aq (s := 3) Z (congrArg pB (show (spIn (⟨pa,1⟩ : TSpan) s) = (spIn ⟨pa,1⟩ s) by simp [*])) (w_ret ?_))
 exact bB (nx1 := 1) (H1 := [(0,.obj [pI pa,pI pc])]) [(0,0)] (ret_tmp Z ret_nil) Z (by decide) ⟨⟨_,_,Z,Z,Z,Z⟩,trivial⟩ (by decide) Z ⟨Z,Z,Z⟩
theorem fI (s : List TSpan) (cl_s : Bool) (pa : Int) (pc : Int) (hs : s.length ≤ 140737488351232) :
    T Tryz.prog 87 [pS 2 cl_s aQ s,PV.clo (.func 88) [PV.ptr 0 0]] 1 [(0,.obj [pI pa,pI pc])] (Ret (pI (idxI (s.findIdx? fun x => (spIn ⟨pa,1⟩ x)))) 1 [(0,.obj [pI pa,pI pc])]) := by
 refine bn aF (n := 19) (rs := [.tmp 4]) Tryz.func87 Z Z Z Z (nb Z) ?_
 intro c N hk
 refine sr (ae N Z Z (an (sr (qm N Z Z (qo N Z (ca (l := s) ei Z (cf (f := aQ) Z) ?_))))))
 let Y : ah := [(0,.obj [pI pa,pI pc])]
 refine qm N Z Z (re (aP (gu (fun (i : Nat) => i ≤ s.length ∧ ∀ j x,j < i → s[j]? = some x → (spIn ⟨pa,1⟩ x) = false) (fun (i : Nat) => [(0,pS 2 cl_s aQ s),(1,PV.clo (.func 88) [PV.ptr 0 0]),(7,pN s.length),(8,pN i)]) 1 (fun (i : Nat) => Y) (fun (i : Nat) => s.length - i) (0) ?_ ⟨[(0,0)],by rw [hk]; decide,⟨⟨_,rfl,rfl,rfl⟩,⟨_,rfl,rfl,rfl⟩,⟨_,rfl,rfl,rfl⟩,⟨_,rfl,rfl,rfl⟩,trivial⟩,⟨⟨_,_,rfl,rfl,rfl,rfl⟩,trivial⟩,by rw [hk]; decide⟩ ?_)))
 · exact ⟨Nat.zero_le _,fun j x hj => by omega⟩
 ·intro i hI
  obtain ⟨hi,ht⟩ := hI
  refine sr (qo N Z (cZ Z Z ?_))
  refine re (an (av Z (fun c1 => ?_) (fun c1 => ?_)))
  ·try simp only [sB] at c1
   refine aw (ak (an (aP (sr (xp N 2 [.o 2] [] [(5,pN i)] ?_)))))
   refine re (sr (qm N Z Z (qm N Z Z (qm N Z Z ?_))))
   obtain ⟨e1,he1⟩ := bl s (i := i) (by omega)
   refine qo N Z (cA (q := i) (b := e1) (f := aQ) ei Z db Z Z (by omega) Z he1 ?_)
   refine qo N Z (gk db Z Z Z ?_)
   refine qo N Z (aN 1 (pB (spIn ⟨pa,1⟩ e1)) Y [0] (oz e1 pa pc) ?_)
   refine aE [(0,pS 2 cl_s aQ s),(1,PV.clo (.func 88) [PV.ptr 0 0]),(5,pN i),(7,pN s.length),(8,pN i),(16,pB (spIn ⟨pa,1⟩ e1))] Y 1 ⟨Z,Z,Z,Z,Z,Z,trivial⟩ Z Z (re (av Z (fun c2 => ?_) (fun c2 => ?_)))
   ·have c2_ := c2
    try simp only [sB] at c2
    refine sr (xp N 2 [.o 2] [] [(4,pN i)] (re (aq (s := 4) Z (congrArg pI (show ((i : Nat) : Int) = (idxI (s.findIdx? fun x => (spIn ⟨pa,1⟩ x))) by rw [jg (p := fun x => (spIn ⟨pa,1⟩ x)) ht he1 c2_])) (w_ret (am ?_)))))
    refine af (af (am (af ?_)))
    exact bB (nx1 := 1) (H1 := Y) [(0,0)] (ret_tmp Z ret_nil) Z (by decide) ⟨⟨_,_,Z,Z,Z,Z⟩,trivial⟩ (by decide) Z ⟨Z,Z,Z⟩
   have c2_ := c2
   try simp only [sB] at c2
   refine aw (aG (ak (bk (qo N Z (cm (a := i) (b := 1) Z Z (by omega) (by omega) (by omega) ?_)))))
   refine qm N Z Z (re (⟨(i + 1), ?_, ?_,⟨[(0,0)],by rw [hk]; decide,⟨⟨_,rfl,rfl,rfl⟩,⟨_,rfl,rfl,rfl⟩,⟨_,rfl,rfl,rfl⟩,⟨_,rfl,rfl,rfl⟩,trivial⟩,⟨⟨_,_,rfl,rfl,rfl,rfl⟩,trivial⟩,by rw [hk]; decide⟩⟩))
   ·refine ⟨by omega,fun j x hj hx => ?_⟩
    by_cases hji : j < i
    · exact ht j x hji hx
    · obtain rfl : j = i := by omega
      rw [he1] at hx; cases hx; exact c2_
   · omega
  try simp only [sB] at c1
  refine cG (aL (aL (bq (ak (sr (ae N Z Z (aq (s := 4) Z (congrArg pI (show (-1) = (idxI (s.findIdx? fun x => (spIn ⟨pa,1⟩ x))) by rw [jh (p := fun x => (spIn ⟨pa,1⟩ x)) (fun j x hj hx => ht j x (by omega) hx)])) (w_ret ?_))))))))
  exact bB (nx1 := 1) (H1 := Y) [(0,0)] (ret_tmp Z ret_nil) Z (by decide) ⟨⟨_,_,Z,Z,Z,Z⟩,trivial⟩ (by decide) Z ⟨Z,Z,Z⟩
theorem fB (l : List TWindow) (cl_l : Bool) (space : Int) (a : Int) (n : Int) (hl : l.length ≤ 1000) :
    T Tryz.prog 70 [pS 4 cl_l aR l,pI space,pI a,pI n] 0 [] (Ret (PV.tup [pS 3 true aU (mapL l space a n),pB (bN l space a n)]) 0 []) := by
 refine bn aF (n := 78) (rs := [.tmp 8,.tmp 9]) Tryz.func70 Z Z Z Z (nb Z) ?_
 intro c N hk
 refine sr (xp N 2 [.o 2] [] [] (re (sr (qm N Z Z (qm N Z Z ?_)))))
 let Ya3 : ah := [(0,oB true 4 aR (ofL l space))]
 refine qo N Z (aN 1 (PV.ref 0 0 none) Ya3 [] (sx l cl_l space (by omega)) ?_)
 refine qa N Z Z (aE [(2,pI a),(3,pI n),(10,PV.ref 0 0 none)] Ya3 1 ⟨Z,Z,Z,trivial⟩ Z Z (re (sr (ae N Z Z (an (an ?_))))))
 have hle := mE l space
 refine bk (qm N Z Z (qo N Z (ca (l := ofL l space) cT Z (ct (f := aR) Z Z) ?_)))
 let Y : Nat × Pv.Obj := (1,oB true 4 aR (ofL l space))
 let Y3 : Nat × PV := (10,PV.ref 1 0 none)
 let Y8 : Nat × PV := (24,pN ((ofL l space).length))
 let Ya4 : Nat × PV := (11,PV.ref 0 0 none)
 let Ya5 : Nat × PV := (23,PV.ref 1 0 none)
 refine qm N Z Z (re (aP (dD (s := 11) (sz := 2) Z (gf (fun (os : List TSpan) (i : Nat) => i ≤ (ofL l space).length ∧ os = ((ofL l space).take i).map vSp) (fun (os : List TSpan) (i : Nat) => [(2,pI a),(3,pI n),Y3,Ya4,Ya5,Y8,(25,pN i)]) 2 (fun (os : List TSpan) (i : Nat) => [(0,oB true 2 aQ os),Y]) (fun (os : List TSpan) (i : Nat) => (ofL l space).length - i) (([] : List TSpan)) (0) ?_ ⟨[(0,1),(1,0)],by rw [hk]; decide,⟨⟨_,rfl,rfl,rfl⟩,⟨_,rfl,rfl,rfl⟩,⟨_,rfl,rfl,rfl⟩,⟨_,rfl,rfl,rfl⟩,⟨_,rfl,rfl,rfl⟩,⟨_,rfl,rfl,rfl⟩,⟨_,rfl,rfl,rfl⟩,trivial⟩,⟨⟨_,_,rfl,rfl,rfl,rfl⟩,⟨_,_,rfl,rfl,rfl,rfl⟩,trivial⟩,by rw [hk]; decide⟩ ?_))))
 · exact ⟨by omega,rfl⟩
 ·intro os i hI
  obtain ⟨hi,hos⟩ := hI
  have hol : os.length ≤ 1000 := by rw [hos]; simp; omega
  refine sr (qo N Z (cZ Z Z ?_))
  refine re (an (av Z (fun c1 => ?_) (fun c1 => ?_)))
  ·try simp only [sB] at c1
   refine aw (ak (an (aP (sr (qo N Z (fg (q := i) (f := aR) (l := ofL l space) cT Z cS Z Z (by omega) Z Z (by omega) ?_))))))
   obtain ⟨e1,he1⟩ := bl (ofL l space) (i := i) (by omega)
   refine qo N Z (ya (b := e1) cS Z Z Z he1 Z Z ?_)
   refine qo N Z (cg cS ?_)
   refine qo N Z (aC cS Z Z Z Z Z (nb Z) ?_)
   refine aE [(2,pI a),(3,pI n),Y3,Ya4,(13,PV.ptr 2 0),Ya5,Y8,(25,pN i)] [(2,.obj (eT e1)),(0,oB true 2 aQ os),Y] 3 ⟨Z,Z,Z,Z,Z,Z,Z,Z,trivial⟩ Z Z (re (bk (xp N 2 [.o 2] [] [(29,PV.ref 0 0 none),(30,PV.f (aR e1))] (qo N Z (aO Z Z Z (w_window_virtual e1) Z ?_)))))
   refine qo N Z (bM (f := aQ) [vSp e1] ei Z db ⟨Z,by decide⟩ (by decide) Z Z Z Z ?_)
   refine qo N Z (bZ (f := aQ) (l := os) (xs := [vSp e1]) ei Z db ⟨Z,by decide,by decide⟩ (da ei Z (ct (f := aQ) Z Z)) Z Z (by (simp; omega)) ?_)
   refine qa N Z Z (aE [(2,pI a),(3,pI n),Y3,(11,PV.ref 4 0 none),Ya5,Y8,(25,pN i)] [(4,oB true 2 aQ (os ++ [vSp e1])),(3,oB true 2 aQ [vSp e1]),(2,.obj (eT e1)),Y] 5 ⟨Z,Z,Z,Z,Z,Z,Z,trivial⟩ Z Z (bG (aG (ak (bk (qo N Z (cm (a := i) (b := 1) Z Z (by omega) (by omega) (by omega) ?_)))))))
   refine qm N Z Z (re (⟨(os ++ [vSp e1]),(i + 1), ?_, ?_,⟨[(0,4),(1,1)],by rw [hk]; decide,⟨⟨_,rfl,rfl,rfl⟩,⟨_,rfl,rfl,rfl⟩,⟨_,rfl,rfl,rfl⟩,⟨_,rfl,rfl,rfl⟩,⟨_,rfl,rfl,rfl⟩,⟨_,rfl,rfl,rfl⟩,⟨_,rfl,rfl,rfl⟩,trivial⟩,⟨⟨_,_,rfl,rfl,rfl,rfl⟩,⟨_,_,rfl,rfl,rfl,rfl⟩,trivial⟩,by rw [hk]; decide⟩⟩))
   ·exact ⟨by omega,by rw [hos,List.take_add_one,he1]; simp⟩
   · omega
  try simp only [sB] at c1
  refine cG (aL (aL (bq (ak (an ?_)))))
  have hie : i = (ofL l space).length := by omega
  let Ya0 : ah := [(0,oB false 2 aQ ((ofL l space).map vSp)),Y]
  refine eN (H' := [(0,oB true 2 aQ ((ofL l space).map vSp)),Y]) (congrArg (fun z => ([(0,oB true 2 aQ z),Y] : ah)) (show os = ((ofL l space).map vSp) by rw [hos,hie,List.take_length])) (bk (xp N 4 [.o 4] [] [(36,PV.ref 0 0 none),(39,PV.f (.agg [ay a,ay n]))] (qo N Z (aN 2 (PV.tup [pS 2 false aQ (cE ((ofL l space).map vSp) (⟨a,n⟩ : TSpan)),pB (cz ((ofL l space).map vSp) (⟨a,n⟩ : TSpan))]) Ya0 [] (qW ((ofL l space).map vSp) false (⟨a,n⟩ : TSpan) (by rw [List.length_map]; omega)) ?_))))
  refine qm N Z Z (qo N Z (cX Z Z ?_))
  refine qo N Z (cX Z Z ?_)
  refine qa N Z Z (qa N Z Z (aE [Y3,Ya4,(14,pS 2 false aQ (cE ((ofL l space).map vSp) (⟨a,n⟩ : TSpan))),(15,pB (cz ((ofL l space).map vSp) (⟨a,n⟩ : TSpan)))] Ya0 2 ⟨Z,Z,Z,Z,trivial⟩ Z Z (re (an (aq (s := 14) Z (congrArg (fun z => pS 2 false aQ z) (show (cE ((ofL l space).map vSp) (⟨a,n⟩ : TSpan)) = (d5 l space a n) by rfl)) (aq (s := 15) Z (congrArg pB (show (cz ((ofL l space).map vSp) (⟨a,n⟩ : TSpan)) = (bN l space a n) by rfl)) ?_))))))
  have hcl := nA l space a n
  refine bk (ae N Z Z (an (sr (qm N Z Z (qo N Z (ca (l := d5 l space a n) ei Z (cf (f := aQ) Z) ?_))))))
  let Y0 : Nat × Pv.Obj := (2,oB false 2 aQ ((ofL l space).map vSp))
  let Y4 : Nat × PV := (43,pS 2 false aQ (d5 l space a n))
  let Y5 : Nat × PV := (44,pN ((d5 l space a n).length))
  let Y7 : Nat × PV := (15,pB (bN l space a n))
  let Ya : Nat × PV := (11,PV.ref 2 0 none)
  let Ya6 : Nat × PV := (16,PV.ref 0 0 none)
  refine qm N Z Z (re (aP (dD (s := 16) (sz := 3) Z (gf (fun (os : List TPiece) (j : Nat) => j ≤ (d5 l space a n).length ∧ os = ((d5 l space a n).take j).map (jb (ofL l space))) (fun (os : List TPiece) (j : Nat) => [Y3,Ya,Y7,Ya6,Y4,Y5,(45,pN j)]) 3 (fun (os : List TPiece) (j : Nat) => [(0,oB true 3 aU os),Y,Y0]) (fun (os : List TPiece) (j : Nat) => (d5 l space a n).length - j) (([] : List TPiece)) (0) ?_ ⟨[(0,2),(1,1),(2,0)],by rw [hk]; decide,⟨⟨_,rfl,rfl,rfl⟩,⟨_,rfl,rfl,rfl⟩,⟨_,rfl,rfl,rfl⟩,⟨_,rfl,rfl,rfl⟩,⟨_,rfl,rfl,rfl⟩,⟨_,rfl,rfl,rfl⟩,⟨_,rfl,rfl,rfl⟩,trivial⟩,⟨⟨_,_,rfl,rfl,rfl,rfl⟩,⟨_,_,rfl,rfl,rfl,rfl⟩,⟨_,_,rfl,rfl,rfl,rfl⟩,trivial⟩,by rw [hk]; decide⟩ ?_))))
  · exact ⟨by omega,rfl⟩
  ·intro os j hI
   obtain ⟨hj,hos2⟩ := hI
   have hol : os.length ≤ 2147483648 := by rw [hos2]; simp; omega
   refine sr (qo N Z (cZ Z Z ?_))
   refine re (an (av Z (fun c2 => ?_) (fun c2 => ?_)))
   ·try simp only [sB] at c2
    refine aw (ak (an (aP (sr ?_))))
    obtain ⟨e2,he2⟩ := bl (d5 l space a n) (i := j) (by omega)
    refine qo N Z (cA (q := j) (b := e2) (f := aQ) ei Z db Z Z (by omega) Z he2 ?_)
    refine qo N Z (gk db Z Z Z ?_)
    refine qo N Z (cg db ?_)
    refine qo N Z (aC db Z Z Z Z Z (nb Z) ?_)
    let Y9 : Nat × Pv.Obj := (0,oB true 3 aU os)
    let Ya2 : Nat × Pv.Obj := (3,.obj (cI e2))
    refine aE [Y3,Ya,Y7,Ya6,(18,PV.ptr 3 0),Y4,Y5,(45,pN j)] [Ya2,Y9,Y,Y0] 4 ⟨Z,Z,Z,Z,Z,Z,Z,Z,trivial⟩ Z Z (re (sr (qm N Z Z (qo N Z (nX Z Z ?_)))))
    let Y2 : ah := [Ya2,Y0,Y9,Y]
    refine qo N Z (aN 4 (pI (idxI (((ofL l space).map vSp).findIdx? fun x => (spIn ⟨e2.at_,1⟩ x)))) Y2 [3] (fI ((ofL l space).map vSp) false e2.at_ e2.count (by rw [List.length_map]; omega)) ?_)
    refine qa N Z Z (aE [Y3,Ya,Y7,Ya6,(18,PV.ptr 3 0),(19,pI (idxI (((ofL l space).map vSp).findIdx? fun x => (spIn ⟨e2.at_,1⟩ x)))),Y4,Y5,(45,pN j)] Y2 4 ⟨Z,Z,Z,Z,Z,Z,Z,Z,Z,trivial⟩ Z Z (re ?_))
    obtain ⟨ii,w,hw,hfi,hno,hin,hpc,m1,m2,m3,v1,v2,v3,v4,v5⟩ := iB (List.mem_of_getElem? he2)
    have hwb := (iA w).1 m1
    have hil := (List.getElem?_eq_some_iff.1 hw).1
    refine aq (s := 19) Z (congrArg pI (show (idxI (((ofL l space).map vSp).findIdx? fun x => (spIn ⟨e2.at_,1⟩ x))) = ((ii : Nat) : Int) by rw [hfi])) (cK N (xq 5 [.o 5] [] (xk [(55,PV.ref 1 0 none),(56,pN ii)] [Y] [] [Y] Y2 (fg (q := ii) (f := aR) (l := ofL l space) cT Z cS Z Z (by omega) Z Z (by omega) ⟨Z,Z,Z⟩) ?_ (hs := ⟨Z,trivial⟩))))
    refine xq 1 [.o 1] [] (xk [(58,PV.ep 1 ii 2)] [Y] [] [Y] Y2 (hU (b := w) (f := aR) aD Z Z Z Z hw Z ⟨Z,Z,Z⟩) ?_ (hs := ⟨Z,trivial⟩))
    refine xq 5 [.o 5] [bu (w.physical + e2.at_)] ?_ (hc := ⟨by unfold bu; (omega),trivial⟩)
    refine xk [(63,PV.ref 1 0 none),(64,pN ii)] [Y] [] [Y] Y2 (fg (q := ii) (f := aR) (l := ofL l space) cT Z cS Z Z (by omega) Z Z (by omega) ⟨Z,Z,Z⟩) ?_ (hs := ⟨Z,trivial⟩)
    refine xq 1 [.o 1] [] (xk [(66,PV.ep 1 ii 1)] [Y] [] [Y] Y2 (hU (b := w) (f := aR) aD Z Z Z Z hw Z ⟨Z,Z,Z⟩) ?_ (hs := ⟨Z,trivial⟩))
    refine xq 4 [.o 4] [bu ((w.physical + e2.at_) - w.virtual)] ?_ (hc := ⟨by unfold bu; (omega),trivial⟩)
    let Y1 : Nat × Pv.Obj := (4,oB true 3 aU [(⟨e2.at_,(w.physical + e2.at_) - w.virtual,e2.count⟩ : TPiece)])
    let Y6 : Nat × Pv.Obj := (5,oB true 3 aU (os ++ [(⟨e2.at_,(w.physical + e2.at_) - w.virtual,e2.count⟩ : TPiece)]))
    refine xk [(71,PV.f (.agg [ay e2.at_,ay ((w.physical + e2.at_) - w.virtual),ay e2.count]))] [] [] [Y1] [Y1,Ya2,Y0,Y9,Y] (bM (f := aU) [(⟨e2.at_,(w.physical + e2.at_) - w.virtual,e2.count⟩ : TPiece)] fT Z gU ⟨Z,by decide⟩ (by decide) Z Z Z Z ⟨Z,Z,Z⟩) (xk [(52,PV.ref 0 0 none),(72,PV.ref 4 0 none)] [Y1] [Y9] [Y6,Y1] [Y6,Y1,Ya2,Y0,Y] (bZ (f := aU) (l := os) (xs := [(⟨e2.at_,(w.physical + e2.at_) - w.virtual,e2.count⟩ : TPiece)]) fT Z gU ⟨Z,by decide,by decide⟩ (da fT Z (ct (f := aU) Z Z)) Z Z (by (simp; omega)) ⟨Z,Z,Z⟩) ?_ (hs := ⟨Z,trivial⟩))
    refine xq 1 [.o 1] [] (xe [Y3,Ya,Y7,(16,PV.ref 5 0 none),Y4,Y5,(45,pN j)] (bG (aG (ak (bk ?_)))))
    refine qo N Z (cm (a := j) (b := 1) Z Z (by omega) (by omega) (by omega) ?_)
    refine qm N Z Z (re (⟨(os ++ [(⟨e2.at_,(w.physical + e2.at_) - w.virtual,e2.count⟩ : TPiece)]),(j + 1), ?_, ?_,⟨[(0,5),(1,1),(2,2)],by rw [hk]; decide,⟨⟨_,rfl,rfl,rfl⟩,⟨_,rfl,rfl,rfl⟩,⟨_,rfl,rfl,rfl⟩,⟨_,rfl,rfl,rfl⟩,⟨_,rfl,rfl,rfl⟩,⟨_,rfl,rfl,rfl⟩,⟨_,rfl,rfl,rfl⟩,trivial⟩,⟨⟨_,_,rfl,rfl,rfl,rfl⟩,⟨_,_,rfl,rfl,rfl,rfl⟩,⟨_,_,rfl,rfl,rfl,rfl⟩,trivial⟩,by rw [hk]; decide⟩⟩))
    ·exact ⟨by omega,by rw [hos2,List.take_add_one,he2]; simp [hpc]⟩
    · omega
   try simp only [sB] at c2
   refine cG (aL (aL (bq (ak (an ?_)))))
   have hje : j = (d5 l space a n).length := by omega
   let Ya1 : ah := [(0,oB false 3 aU (mapL l space a n)),Y,Y0]
   refine eN (H' := [(0,oB true 3 aU (mapL l space a n)),Y,Y0]) (congrArg (fun z => ([(0,oB true 3 aU z),Y,Y0] : ah)) (show os = (mapL l space a n) by rw [hos2,hje,List.take_length]; rfl)) (bk (qm N Z Z (qo N Z (aN 3 (pS 3 true aU (mapL l space a n)) Ya1 [] (fS (mapL l space a n) false) ?_))))
   exact qm N Z Z (qa N Z Z (qa N Z Z (aE [(8,pS 3 true aU (mapL l space a n)),(9,pB (bN l space a n))] Ya1 3 ⟨Z,Z,trivial⟩ Z Z (re (aq (s := 8) Z (congrArg (fun z => pS 3 true aU z) (show (mapL l space a n) = (mapL l space a n) by rfl)) (w_ret fp))))))
theorem gy (l : List TWindow) (cl_l : Bool) (space : Int) (a : Int) (n : Int) (hl : l.length ≤ 1000) :
    T Tryz.prog 59 [pS 4 cl_l aR l,pI space,pI a,pI n] 0 [] (Ret (PV.tup [pS 3 false aU (mapL l space a n),pB (bN l space a n)]) 0 []) := by
 refine bn aF (n := 96) (rs := [.tmp 8,.tmp 9]) Tryz.func59 Z Z Z Z (nb Z) ?_
 intro c N hk
 refine sr (xp N 2 [.o 2] [] [] (re (sr (ae N Z Z (sr ?_)))))
 refine ae N Z Z (an (sr (qm N Z Z (qo N Z (ca (l := l) cT Z (cf (f := aR) Z) ?_)))))
 let Y5 : Nat × PV := (11,PV.ref 1 0 none)
 refine qm N Z Z (re (aP (dD (s := 10) (sz := 2) Z (dD (s := 11) (sz := 4) Z (iP (fun (ss : List TSpan) (ws : List TWindow) (i : Nat) => i ≤ l.length ∧ ws = ofL (l.take i) space ∧ ss = (ofL (l.take i) space).map vSp) (fun (ss : List TSpan) (ws : List TWindow) (i : Nat) => [(1,pI space),(2,pI a),(3,pI n),(10,PV.ref 0 0 none),Y5,(21,pS 4 cl_l aR l),(22,pN l.length),(23,pN i)]) 2 (fun (ss : List TSpan) (ws : List TWindow) (i : Nat) => [(0,oB true 2 aQ ss),(1,oB true 4 aR ws)]) (fun (ss : List TSpan) (ws : List TWindow) (i : Nat) => l.length - i) (([] : List TSpan)) (([] : List TWindow)) (0) ?_ ⟨[(0,0),(1,1)],by rw [hk]; decide,⟨⟨_,rfl,rfl,rfl⟩,⟨_,rfl,rfl,rfl⟩,⟨_,rfl,rfl,rfl⟩,⟨_,rfl,rfl,rfl⟩,⟨_,rfl,rfl,rfl⟩,⟨_,rfl,rfl,rfl⟩,⟨_,rfl,rfl,rfl⟩,⟨_,rfl,rfl,rfl⟩,trivial⟩,⟨⟨_,_,rfl,rfl,rfl,rfl⟩,⟨_,_,rfl,rfl,rfl,rfl⟩,trivial⟩,by rw [hk]; decide⟩ ?_)))))
 · exact ⟨by omega,rfl,rfl⟩
 ·intro ss ws i hI
  obtain ⟨hi,hws,hss⟩ := hI
  have hol := Nat.le_trans (mE (l.take i) space) (show (l.take i).length ≤ 1000 by simp; omega)
  have hol1 : ws.length ≤ 1000 := by rw [hws]; exact hol
  have hol2 : ss.length ≤ 1000 := by rw [hss]; simp; omega
  refine sr (qo N Z (cZ Z Z ?_))
  let Y2 : Nat × Pv.Obj := (1,oB true 4 aR ws)
  refine re (an (av Z (fun c1 => ?_) (fun c1 => ?_)))
  ·try simp only [sB] at c1
   refine aw (ak (an (aP (sr ?_))))
   obtain ⟨e1,he1⟩ := bl l (i := i) (by omega)
   refine qo N Z (cA (q := i) (b := e1) (f := aR) cT Z cS Z Z (by omega) Z he1 ?_)
   let Y8 : Nat × Pv.Obj := (2,.obj (eT e1))
   let Ya1 : Nat × Pv.Obj := (0,oB true 2 aQ ss)
   refine xm N 3 [.o 3] [] [(13,PV.ptr 2 0)] 3 [Y8,Ya1,Y2] (re (sr (xp N 1 [.o 1] [] [(27,PV.f (aR e1))] (qo N Z (aO Z Z Z (kP e1) Z ?_)))))
   refine xp N 6 [.o 1,.b 4 [.o 4]] [] [(34,pB ((winR e1) && (decide (e1.space = space))))] (re (av Z (fun c2 => ?_) (fun c2 => ?_)))
   ·have c2_ := c2
    try simp only [sB] at c2
    let Y : Nat × Pv.Obj := (3,oB true 2 aQ [(⟨e1.virtual,e1.count⟩ : TSpan)])
    let Y1 : Nat × Pv.Obj := (4,oB true 2 aQ (ss ++ [(⟨e1.virtual,e1.count⟩ : TSpan)]))
    refine cK N (xq 6 [.o 6] [] (xk [(40,PV.f (.agg [ay e1.virtual,ay e1.count]))] [] [] [Y] [Y,Y8,Ya1,Y2] (bM (f := aQ) [(⟨e1.virtual,e1.count⟩ : TSpan)] fa Z dy ⟨Z,by decide⟩ (by decide) Z Z Z Z ⟨Z,Z,Z⟩) (xk [(35,PV.ref 0 0 none),(41,PV.ref 3 0 none)] [Y] [Ya1] [Y1,Y] [Y1,Y,Y8,Y2] (bZ (f := aQ) (l := ss) (xs := [(⟨e1.virtual,e1.count⟩ : TSpan)]) fa Z dy ⟨Z,by decide,by decide⟩ (da fa Z (ct (f := aQ) Z Z)) Z Z (by (simp; omega)) ⟨Z,Z,Z⟩) ?_ (hs := ⟨Z,trivial⟩))))
    let Y6 : Nat × Pv.Obj := (5,oB true 4 aR [e1])
    refine xq 2 [.o 2] [] (xk [(44,PV.f (aR e1))] [] [] [Y6] [Y6,Y1,Y,Y8,Y2] (bM (f := aR) [e1] cT Z cS ⟨Z,by decide⟩ (by decide) Z Z Z Z ⟨Z,Z,Z⟩) (xk [(43,PV.ref 1 0 none),(45,PV.ref 5 0 none)] [Y6] [Y2] [(6,oB true 4 aR (ws ++ [e1])),Y6] [(6,oB true 4 aR (ws ++ [e1])),Y6,Y1,Y,Y8] (bZ (f := aR) (l := ws) (xs := [e1]) cT Z cS ⟨Z,by decide,by decide⟩ (da cT Z (ct (f := aR) Z Z)) Z Z (by (simp; omega)) ⟨Z,Z,Z⟩) ?_ (hs := ⟨Z,trivial⟩)))
    refine xq 2 [.o 2] [] (xe [(1,pI space),(2,pI a),(3,pI n),(10,PV.ref 4 0 none),(11,PV.ref 6 0 none),(21,pS 4 cl_l aR l),(22,pN l.length),(23,pN i)] (bG (aG (ak (bk ?_)))))
    refine qo N Z (cm (a := i) (b := 1) Z Z (by omega) (by omega) (by omega) ?_)
    refine qm N Z Z (re (⟨(ss ++ [(⟨e1.virtual,e1.count⟩ : TSpan)]),(ws ++ [e1]),(i + 1), ?_, ?_,⟨[(0,4),(1,6)],by rw [hk]; decide,⟨⟨_,rfl,rfl,rfl⟩,⟨_,rfl,rfl,rfl⟩,⟨_,rfl,rfl,rfl⟩,⟨_,rfl,rfl,rfl⟩,⟨_,rfl,rfl,rfl⟩,⟨_,rfl,rfl,rfl⟩,⟨_,rfl,rfl,rfl⟩,⟨_,rfl,rfl,rfl⟩,trivial⟩,⟨⟨_,_,rfl,rfl,rfl,rfl⟩,⟨_,_,rfl,rfl,rfl,rfl⟩,trivial⟩,by rw [hk]; decide⟩⟩))
    ·(exact ⟨by omega,by rw [hws]; exact md he1 c2_,by rw [hss,← md he1 c2_,List.map_append]; rfl⟩)
    · omega
   have c2_ := c2
   try simp only [sB] at c2
   refine aw (aG (ak (bk (qo N Z (cm (a := i) (b := 1) Z Z (by omega) (by omega) (by omega) ?_)))))
   refine qm N Z Z (re (⟨(ss),(ws),(i + 1), ?_, ?_,⟨[(0,0),(1,1)],by rw [hk]; decide,⟨⟨_,rfl,rfl,rfl⟩,⟨_,rfl,rfl,rfl⟩,⟨_,rfl,rfl,rfl⟩,⟨_,rfl,rfl,rfl⟩,⟨_,rfl,rfl,rfl⟩,⟨_,rfl,rfl,rfl⟩,⟨_,rfl,rfl,rfl⟩,⟨_,rfl,rfl,rfl⟩,trivial⟩,⟨⟨_,_,rfl,rfl,rfl,rfl⟩,⟨_,_,rfl,rfl,rfl,rfl⟩,trivial⟩,by rw [hk]; decide⟩⟩))
   ·(exact ⟨by omega,by rw [hws]; exact me he1 c2_,by rw [hss,me he1 c2_]⟩)
   · omega
  try simp only [sB] at c1
  refine cG (aL (aL (bq (ak (an ?_)))))
  have hie : ofL (l.take i) space = ofL l space := by rw [List.take_of_length_le (by omega)]
  let Y0 : Nat × Pv.Obj := (1,oB true 4 aR (ofL l space))
  let Y7 : Nat × Pv.Obj := (0,oB true 2 aQ ((ofL l space).map vSp))
  refine eN (H' := [Y7,Y2]) (congrArg (fun z => ([(0,oB true 2 aQ z),Y2] : ah)) (show ss = ((ofL l space).map vSp) by rw [hss,hie])) (eN (H' := [Y7,Y0]) (congrArg (fun z => ([Y7,(1,oB true 4 aR z)] : ah)) (show ws = (ofL l space) by rw [hws,hie])) ?_)
  have hle := mE l space
  let Y9 : ah := [(0,oB false 2 aQ ((ofL l space).map vSp)),Y0]
  refine bk (xp N 4 [.o 4] [] [(49,PV.ref 0 0 none),(52,PV.f (.agg [ay a,ay n]))] (qo N Z (aN 2 (PV.tup [pS 2 false aQ (cE ((ofL l space).map vSp) (⟨a,n⟩ : TSpan)),pB (cz ((ofL l space).map vSp) (⟨a,n⟩ : TSpan))]) Y9 [] (lD ((ofL l space).map vSp) false (⟨a,n⟩ : TSpan) (by rw [List.length_map]; omega)) ?_)))
  refine qm N Z Z (qo N Z (cX Z Z ?_))
  refine qo N Z (cX Z Z ?_)
  refine qa N Z Z (qa N Z Z (aE [Y5,(14,pS 2 false aQ (cE ((ofL l space).map vSp) (⟨a,n⟩ : TSpan))),(15,pB (cz ((ofL l space).map vSp) (⟨a,n⟩ : TSpan)))] Y9 2 ⟨Z,Z,Z,trivial⟩ Z Z (re (an (an (aq (s := 14) Z (congrArg (fun z => pS 2 false aQ z) (show (cE ((ofL l space).map vSp) (⟨a,n⟩ : TSpan)) = (d5 l space a n) by rfl)) (aq (s := 15) Z (congrArg pB (show (cz ((ofL l space).map vSp) (⟨a,n⟩ : TSpan)) = (bN l space a n) by rfl)) ?_)))))))
  have hcl := nA l space a n
  refine bk (qm N Z Z (qo N Z (eO Z ?_)))
  refine re (av Z (fun c3 => ?_) (fun c3 => ?_))
  ·have c3_ := c3
   try simp only [sB] at c3
   have hmo : bN l space a n = false := by simpa using c3_
   have hml : mapL l space a n = [] := by unfold mapL d5 cE; unfold bN cz at hmo; rw [Option.isSome_eq_false_iff,Option.isNone_iff_eq_none] at hmo; rw [hmo]; rfl
   exact sr (qa N Z Z (ae N Z Z (dw (s := 8) (y := pS 3 false aU []) Z (ax 3 false) (aq (s := 8) Z (congrArg (fun z => pS 3 false aU z) (show ([] : List TPiece) = (mapL l space a n) by exact hml.symm)) (aq (s := 9) Z (congrArg pB (show false = (bN l space a n) by exact hmo.symm)) (w_ret (af fp)))))))
  have c3_ := c3
  try simp only [sB] at c3
  have hmo : bN l space a n = true := by simpa using c3_
  refine aw (ak (sr (ae N Z Z (an (sr (qm N Z Z (qo N Z (ca (l := d5 l space a n) fa Z (cf (f := aQ) Z) ?_))))))))
  let Y3 : Nat × PV := (58,pS 2 false aQ (d5 l space a n))
  let Y4 : Nat × PV := (59,pN ((d5 l space a n).length))
  let Ya0 : Nat × PV := (16,PV.ref 0 0 none)
  refine qm N Z Z (re (aP (dD (s := 16) (sz := 3) Z (gf (fun (os : List TPiece) (j : Nat) => j ≤ (d5 l space a n).length ∧ os = ((d5 l space a n).take j).map (jb (ofL l space))) (fun (os : List TPiece) (j : Nat) => [Y5,Ya0,Y3,Y4,(60,pN j)]) 2 (fun (os : List TPiece) (j : Nat) => [(0,oB true 3 aU os),Y0]) (fun (os : List TPiece) (j : Nat) => (d5 l space a n).length - j) (([] : List TPiece)) (0) ?_ ⟨[(0,2),(1,1)],by rw [hk]; decide,⟨⟨_,rfl,rfl,rfl⟩,⟨_,rfl,rfl,rfl⟩,⟨_,rfl,rfl,rfl⟩,⟨_,rfl,rfl,rfl⟩,⟨_,rfl,rfl,rfl⟩,trivial⟩,⟨⟨_,_,rfl,rfl,rfl,rfl⟩,⟨_,_,rfl,rfl,rfl,rfl⟩,trivial⟩,by rw [hk]; decide⟩ ?_))))
  · exact ⟨by omega,rfl⟩
  ·intro os j hI
   obtain ⟨hj,hos2⟩ := hI
   have hol3 : os.length ≤ 2147483648 := by rw [hos2]; simp; omega
   refine sr (qo N Z (cZ Z Z ?_))
   refine re (an (av Z (fun c4 => ?_) (fun c4 => ?_)))
   ·try simp only [sB] at c4
    refine aw (ak (an (aP (sr ?_))))
    obtain ⟨e2,he2⟩ := bl (d5 l space a n) (i := j) (by omega)
    refine qo N Z (cA (q := j) (b := e2) (f := aQ) fa Z dy Z Z (by omega) Z he2 ?_)
    let Ya : Nat × Pv.Obj := (2,.obj (cI e2))
    refine xm N 3 [.o 3] [] [(18,PV.ptr 2 0)] 3 [Ya,(0,oB true 3 aU os),Y0] (re (sr (qm N Z Z (qo N Z (ca (l := ofL l space) cT Z (ct (f := aR) Z Z) ?_)))))
    refine qm N Z Z (re (aP (gf (fun (os4 : List TPiece) (k : Nat) => k ≤ (ofL l space).length ∧ (∀ q u,q < k → (ofL l space)[q]? = some u → spIn e2 (vSp u) = false) ∧ os4 = os) (fun (os4 : List TPiece) (k : Nat) => [Y5,Ya0,(18,PV.ptr 2 0),Y3,Y4,(60,pN j),(64,PV.ref 1 0 none),(65,pN ((ofL l space).length)),(66,pN k)]) 3 (fun (os4 : List TPiece) (k : Nat) => [(0,oB true 3 aU os4),Y0,Ya]) (fun (os4 : List TPiece) (k : Nat) => (ofL l space).length - k) (os) (0) ?_ ⟨[(0,0),(1,1),(2,2)],by rw [hk]; decide,⟨⟨_,rfl,rfl,rfl⟩,⟨_,rfl,rfl,rfl⟩,⟨_,rfl,rfl,rfl⟩,⟨_,rfl,rfl,rfl⟩,⟨_,rfl,rfl,rfl⟩,⟨_,rfl,rfl,rfl⟩,⟨_,rfl,rfl,rfl⟩,⟨_,rfl,rfl,rfl⟩,⟨_,rfl,rfl,rfl⟩,trivial⟩,⟨⟨_,_,rfl,rfl,rfl,rfl⟩,⟨_,_,rfl,rfl,rfl,rfl⟩,⟨_,_,rfl,rfl,rfl,rfl⟩,trivial⟩,by rw [hk]; decide⟩ ?_)))
    · exact ⟨by omega,fun q u hq => by omega,rfl⟩
    ·intro os4 k hK
     obtain ⟨hk2,hno,ho4⟩ := hK
     have hol4 : os4.length ≤ 2147483648 := by rw [ho4]; exact hol3
     refine sr (qo N Z (cZ Z Z ?_))
     refine re (an (av Z (fun c5 => ?_) (fun c5 => ?_)))
     ·try simp only [sB] at c5
      refine aw (ak (an (aP (sr (qo N Z (fg (q := k) (f := aR) (l := ofL l space) cT Z cS Z Z (by omega) Z Z (by omega) ?_))))))
      obtain ⟨e3,he3⟩ := bl (ofL l space) (i := k) (by omega)
      refine qo N Z (ya (b := e3) cS Z Z Z he3 Z Z ?_)
      refine qo N Z (cg cS ?_)
      refine qo N Z (aC cS Z Z Z Z Z (nb Z) ?_)
      refine aE [Y5,Ya0,(18,PV.ptr 2 0),(20,PV.ptr 3 0),Y3,Y4,(60,pN j),(64,PV.ref 1 0 none),(65,pN ((ofL l space).length)),(66,pN k)] [(3,.obj (eT e3)),(0,oB true 3 aU os4),Y0,Ya] 4 ⟨Z,Z,Z,Z,Z,Z,Z,Z,Z,Z,trivial⟩ Z Z (re (sr (xp N 6 [.o 6] [] [(70,PV.f (aQ e2)),(75,PV.f (.agg [ay e3.virtual,ay e3.count]))] (qo N Z (aO Z Z Z (m6 e2 (⟨e3.virtual,e3.count⟩ : TSpan)) Z ?_)))))
      refine re (av Z (fun c6 => ?_) (fun c6 => ?_))
      ·have c6_ := c6
       try simp only [sB] at c6
       refine an ?_
       obtain ⟨hpc,m1,v1,v2,v3⟩ := sS (List.mem_of_getElem? he2) he3 c6_ hno
       have hwb := (iA e3).1 m1
       refine bk (xp N 14 [.o 14] [bu (e3.physical + e2.at_),bu ((e3.physical + e2.at_) - e3.virtual)] [(77,PV.ref 0 0 none),(90,PV.f (.agg [ay e2.at_,ay ((e3.physical + e2.at_) - e3.virtual),ay e2.count]))] ?_ (hc := ⟨by unfold bu; (omega),by unfold bu; (omega),trivial⟩))
       refine qo N Z (bM (f := aU) [(⟨e2.at_,(e3.physical + e2.at_) - e3.virtual,e2.count⟩ : TPiece)] gH Z gT ⟨Z,by decide⟩ (by decide) Z Z Z Z ?_)
       refine qo N Z (bZ (f := aU) (l := os4) (xs := [(⟨e2.at_,(e3.physical + e2.at_) - e3.virtual,e2.count⟩ : TPiece)]) gH Z gT ⟨Z,by decide,by decide⟩ (da gH Z (ct (f := aU) Z Z)) Z Z (by (simp; omega)) ?_)
       refine qa N Z Z (aE [Y5,(16,PV.ref 5 0 none),Y3,Y4,(60,pN j)] [(5,oB true 3 aU (os4 ++ [(⟨e2.at_,(e3.physical + e2.at_) - e3.virtual,e2.count⟩ : TPiece)])),(4,oB true 3 aU [(⟨e2.at_,(e3.physical + e2.at_) - e3.virtual,e2.count⟩ : TPiece)]),(3,.obj (eT e3)),Y0,Ya] 6 ⟨Z,Z,Z,Z,Z,trivial⟩ Z Z (re (cG (l9 (by decide) (aL (aL (bq (aG (ak ?_)))))))))
       refine bk (qo N Z (cm (a := j) (b := 1) Z Z (by omega) (by omega) (by omega) ?_))
       refine qm N Z Z (re (⟨(os4 ++ [(⟨e2.at_,(e3.physical + e2.at_) - e3.virtual,e2.count⟩ : TPiece)]),(j + 1), ?_, ?_,⟨[(0,5),(1,1)],by rw [hk]; decide,⟨⟨_,rfl,rfl,rfl⟩,⟨_,rfl,rfl,rfl⟩,⟨_,rfl,rfl,rfl⟩,⟨_,rfl,rfl,rfl⟩,⟨_,rfl,rfl,rfl⟩,trivial⟩,⟨⟨_,_,rfl,rfl,rfl,rfl⟩,⟨_,_,rfl,rfl,rfl,rfl⟩,trivial⟩,by rw [hk]; decide⟩⟩))
       ·exact ⟨by omega,by rw [ho4,hos2,List.take_add_one,he2]; simp [hpc]⟩
       · omega
      have c6_ := c6
      try simp only [sB] at c6
      refine aw (aG (ak (bk (qo N Z (cm (a := k) (b := 1) Z Z (by omega) (by omega) (by omega) ?_)))))
      refine qm N Z Z (re (⟨(os4),(k + 1), ?_, ?_,⟨[(0,0),(1,1),(2,2)],by rw [hk]; decide,⟨⟨_,rfl,rfl,rfl⟩,⟨_,rfl,rfl,rfl⟩,⟨_,rfl,rfl,rfl⟩,⟨_,rfl,rfl,rfl⟩,⟨_,rfl,rfl,rfl⟩,⟨_,rfl,rfl,rfl⟩,⟨_,rfl,rfl,rfl⟩,⟨_,rfl,rfl,rfl⟩,⟨_,rfl,rfl,rfl⟩,trivial⟩,⟨⟨_,_,rfl,rfl,rfl,rfl⟩,⟨_,_,rfl,rfl,rfl,rfl⟩,⟨_,_,rfl,rfl,rfl,rfl⟩,trivial⟩,by rw [hk]; decide⟩⟩))
      ·refine ⟨by omega,fun q u hq hu => ?_,ho4⟩
       by_cases hqk : q < k
       · exact hno q u hqk hu
       · obtain rfl : q = k := by omega
         rw [he3] at hu; cases hu; exact c6_
      · omega
     exact absurd c5 (by intro h9; exact piece_there (List.mem_of_getElem? he2) (fun q u hq hu => hno q u (by have := of_decide_eq_false h9; omega) hu))
   try simp only [sB] at c4
   have hje : j = (d5 l space a n).length := by omega
   have hml : os = mapL l space a n := by rw [hos2,hje,List.take_length]; rfl
   refine cG (aL (aL (bq (ak (sr ?_)))))
   exact xp N 3 [.o 3] [] [(8,PV.ref 0 0 none),(9,pB true)] (re (gE (s := 8) (f := aU) Z Z gG (aq (s := 8) Z (congrArg (fun z => pS 3 false aU z) (show os = (mapL l space a n) by exact hml)) (aq (s := 9) Z (congrArg pB (show true = (bN l space a n) by exact hmo.symm)) (w_ret fp)))))
def aJ (n : Int) : List UInt8 := [bz (n / 2 ^ 8),bz n]
@[simp] theorem sR (n : Int) : (aJ n).length = 2 := rfl
theorem wh (n : Int) : IntKind.u64.wrap n = n % 18446744073709551616 := by
  have e1 : IntKind.u64.signed = false := rfl
  have e2 : IntKind.u64.bits = 64 := rfl
  simp only [IntKind.wrap,e1,e2]
  rw [show (2:Int) ^ 64 = 18446744073709551616 from rfl]
  simp
theorem yx (n : Int) : bz (IntKind.u64.wrap n / 2 ^ 8) = bz (n / 2 ^ 8) := by
  unfold bz
  rw [wh]
  congr 2
  omega
theorem ky (n : Int) : (bz n).toNat = (n % 256).toNat := by
  have := pz n
  omega
def mi (b : List UInt8) (k : Nat) : Nat := (b.getD k 0).toNat * 256 + (b.getD (k + 1) 0).toNat
def gg (b : List UInt8) (k : Int) : Bool := decide (0 ≤ k ∧ k + 2 ≤ b.length)
def bA (b : List UInt8) (k : Int) : Int := if gg b k then mi b k.toNat else 0
theorem tj (a b : Nat) (h : b < 256) : a * 2 ^ 8 ||| b = a * 256 + b := by
  rw [← Nat.shiftLeft_eq,← Nat.shiftLeft_add_eq_or_of_lt (by simpa using h),Nat.shiftLeft_eq]
theorem zP (b : List UInt8) (k : Nat) : mi b k < 65536 := by
  unfold mi
  have h1 := kb (b.getD k 0)
  have h2 := kb (b.getD (k + 1) 0)
  omega
theorem zO {b : List UInt8}{k : Nat}{x y : UInt8} (hx : b[k]? = some x) (hy : b[k + 1]? = some y) : mi b k = x.toNat * 256 + y.toNat := by
  simp [mi,List.getD_eq_getElem?_getD,hx,hy]
def w16 (x y : UInt8) : UInt16 := (x.toUInt16 <<< UInt16.ofNat 8) ||| y.toUInt16
theorem yv (x y : UInt8) : (w16 x y).toNat = x.toNat * 256 + y.toNat := by
  have hx := kb x
  have hy := kb y
  unfold w16
  rw [UInt16.toNat_or,UInt16.toNat_shiftLeft]
  have h1 : (UInt16.ofNat 8).toNat % 16 = 8 := by decide
  have h2 : x.toUInt16.toNat = x.toNat := by simp
  have h3 : y.toUInt16.toNat = y.toNat := by simp
  rw [h1,h2,h3,Nat.shiftLeft_eq,Nat.mod_eq_of_lt (by omega),tj _ _ hy]
def eU : List UInt8 → List UInt16
  | x :: y :: t => w16 x y :: eU t
  | _ => []
def fA (b : List UInt8) : Bool := decide (b.length % 2 = 0)
def fd (b : List UInt8) : List UInt16 := if fA b then eU b else []
theorem mO : ∀ (l : List UInt8) (x y : UInt8),l.length % 2 = 0 → eU (l ++ [x,y]) = eU l ++ [w16 x y]
  | [],x,y,_ => rfl
  | [a],x,y,h => by simp at h
  | a :: b :: t,x,y,h => by
    have : eU (t ++ [x,y]) = eU t ++ [w16 x y] := mO t x y (by simp at h; omega)
    simp [eU,this]
theorem sw {b : List UInt8}{i : Nat}{x y : UInt8} (hi : i % 2 = 0) (hx : b[i]? = some x) (hy : b[i + 1]? = some y) : eU (b.take (i + 2)) = eU (b.take i) ++ [w16 x y] := by
  have hl := oc hx
  rw [show i + 2 = (i + 1) + 1 from rfl,List.take_add_one,List.take_add_one,hx,hy,List.append_assoc]
  exact mO _ x y (by simp; omega)
@[simp] theorem jl : ∀ (b : List UInt8),(eU b).length = b.length / 2
  | [] => rfl
  | [_] => by simp [eU]
  | a :: b :: t => by simp [eU,jl t]; omega
def lp (w : UInt16) : List UInt8 := [(w >>> UInt16.ofNat 8).toUInt8,w.toUInt8]
def bW (l : List UInt16) : List UInt8 := l.flatMap lp
theorem sY {l : List UInt16}{i : Nat}{w : UInt16} (h : l[i]? = some w) : bW (l.take (i + 1)) = bW (l.take i) ++ [(w >>> UInt16.ofNat 8).toUInt8,w.toUInt8] := by
  rw [List.take_add_one,h]
  simp [bW,lp]
@[simp] theorem js (l : List UInt16) : (bW l).length = 2 * l.length := by
  induction l with
  | nil => rfl
  | cons a t ih => simp [bW,lp] at ih ⊢; omega
theorem wl (w : UInt16) : w16 (w >>> UInt16.ofNat 8).toUInt8 w.toUInt8 = w := by
  apply UInt16.toNat_inj.1
  rw [yv]
  have h := rX w
  have h1 : (w >>> UInt16.ofNat 8).toNat = w.toNat / 256 := by
    rw [UInt16.toNat_shiftRight,Nat.shiftRight_eq_div_pow]; rfl
  rw [UInt16.toNat_toUInt8,UInt16.toNat_toUInt8,h1]
  omega
theorem nN : ∀ (l : List UInt16),eU (bW l) = l
  | [] => rfl
  | a :: t => by
    have := nN t
    simp only [bW,List.flatMap_cons,lp,List.cons_append,List.nil_append,eU,wl] at this ⊢
    rw [this]
theorem qU (l : List UInt16) : fA (bW l) = true := by simp [fA,js]
def bitB (x : UInt8) (t : Nat) : Bool := x.toBitVec.getLsbD t
theorem zZ (x : UInt8) {t : Nat} (h : t < 8) : decide ((x >>> UInt8.ofNat t) &&& 1 = 1) = bitB x t := by
  have h0 : ((x >>> UInt8.ofNat t) &&& 1).toNat = x.toNat / 2 ^ t % 2 := by
    rw [UInt8.toNat_and,UInt8.toNat_shiftRight]
    have h1 : (UInt8.ofNat t).toNat % 8 = t := by simp; omega
    rw [h1,Nat.shiftRight_eq_div_pow]
    exact Nat.and_one_is_mod _
  have h2 : bitB x t = decide (x.toNat / 2 ^ t % 2 = 1) := by
    unfold bitB
    rw [← BitVec.testBit_toNat]
    exact Nat.testBit_eq_decide_div_mod_eq
  rw [h2]
  apply decide_eq_decide.2
  rw [← h0]
  constructor
  · intro e; rw [e]; rfl
  · intro e; exact UInt8.toNat_inj.1 e
theorem nC {x y : UInt8} (h : ∀ k,k < 8 → bitB x k = bitB y k) : x = y := by
  apply UInt8.toBitVec_inj.1
  apply BitVec.eq_of_getLsbD_eq
  intro i hi
  exact h i hi
def jd (f : Nat → Bool) : UInt8 := ⟨BitVec.ofBoolListLE [f 0,f 1,f 2,f 3,f 4,f 5,f 6,f 7]⟩
theorem kI (f : Nat → Bool) {k : Nat} (h : k < 8) : bitB (jd f) k = f k := by
  unfold bitB jd
  rw [BitVec.getLsbD_ofBoolListLE]
  match k,h with
  | 0,_|1,_|2,_|3,_|4,_|5,_|6,_|7,_ => rfl
theorem BC (x y : UInt8) (k : Nat) : bitB (x ||| y) k = (bitB x k || bitB y k) := by
  unfold bitB
  rw [UInt8.toBitVec_or,BitVec.getLsbD_or]
theorem zY {t k : Nat} (ht : t < 8) (hk : k < 8) : bitB ((1 : UInt8) <<< UInt8.ofNat t) k = decide (k = t) := by
  match t,ht,k,hk with
  | 0,_,0,_|0,_,1,_|0,_,2,_|0,_,3,_|0,_,4,_|0,_,5,_|0,_,6,_|0,_,7,_
  | 1,_,0,_|1,_,1,_|1,_,2,_|1,_,3,_|1,_,4,_|1,_,5,_|1,_,6,_|1,_,7,_
  | 2,_,0,_|2,_,1,_|2,_,2,_|2,_,3,_|2,_,4,_|2,_,5,_|2,_,6,_|2,_,7,_
  | 3,_,0,_|3,_,1,_|3,_,2,_|3,_,3,_|3,_,4,_|3,_,5,_|3,_,6,_|3,_,7,_
  | 4,_,0,_|4,_,1,_|4,_,2,_|4,_,3,_|4,_,4,_|4,_,5,_|4,_,6,_|4,_,7,_
  | 5,_,0,_|5,_,1,_|5,_,2,_|5,_,3,_|5,_,4,_|5,_,5,_|5,_,6,_|5,_,7,_
  | 6,_,0,_|6,_,1,_|6,_,2,_|6,_,3,_|6,_,4,_|6,_,5,_|6,_,6,_|6,_,7,_
  | 7,_,0,_|7,_,1,_|7,_,2,_|7,_,3,_|7,_,4,_|7,_,5,_|7,_,6,_|7,_,7,_ => rfl
def ge (l : List Bool) (i : Nat) : List UInt8 := (List.range ((l.length + 7) / 8)).map fun j => jd fun k => decide (8 * j + k < i) && l.getD (8 * j + k) false
def packL (l : List Bool) : List UInt8 := (List.range ((l.length + 7) / 8)).map fun j => jd fun k => l.getD (8 * j + k) false
@[simp] theorem mc (l : List Bool) (i : Nat) : (ge l i).length = (l.length + 7) / 8 := by simp [ge]
@[simp] theorem ij (l : List Bool) : (packL l).length = (l.length + 7) / 8 := by simp [packL]
theorem ka {α : Type}{n : Nat}{f g : Nat → α} (h : ∀ j,j < n → f j = g j) : (List.range n).map f = (List.range n).map g := by
  apply List.map_congr_left
  intro j hj
  exact h j (List.mem_range.1 hj)
theorem nl {f g : Nat → Bool} (h : ∀ k,k < 8 → f k = g k) : jd f = jd g := nC fun k hk => by rw [kI f hk,kI g hk,h k hk]
theorem ug (l : List Bool) : ge l 0 = List.replicate ((l.length + 7) / 8) 0 := by
  apply List.ext_getElem?
  intro j
  simp only [ge,List.getElem?_map,List.getElem?_replicate,List.getElem?_range]
  by_cases hj : j < (l.length + 7) / 8
  · simp only [hj,if_true,List.getElem?_range,Option.map_some]
    congr 1
    exact nC fun k hk => by rw [kI _ hk]; simp; match k,hk with
      | 0,_|1,_|2,_|3,_|4,_|5,_|6,_|7,_ => rfl
  · simp [hj]
theorem vl (l : List Bool) : ge l l.length = packL l := by
  apply ka
  intro j _
  apply nl
  intro k _
  by_cases h : 8 * j + k < l.length
  · simp [h]
  · simp [h,List.getD_eq_getElem?_getD,List.getElem?_eq_none (Nat.le_of_not_lt h)]
theorem xg {l : List Bool}{i : Nat} (h : l[i]? = some false) : ge l (i + 1) = ge l i := by
  apply ka
  intro j _
  apply nl
  intro k _
  by_cases e : 8 * j + k = i
  · rw [e]; simp [List.getD_eq_getElem?_getD,h]
  · have : (8 * j + k < i + 1) ↔ (8 * j + k < i) := by omega
    simp [this]
theorem vk {l : List Bool}{i : Nat}{x : UInt8} (h : l[i]? = some true) (hx : (ge l i)[i / 8]? = some x) : (ge l i).set (i / 8) (x ||| ((1 : UInt8) <<< UInt8.ofNat (i % 8))) = ge l (i + 1) := by
  have hi := oc h
  have hm : i / 8 < (l.length + 7) / 8 := by omega
  apply List.ext_getElem?
  intro j
  rw [List.getElem?_set]
  by_cases e : i / 8 = j
  · subst e
    rw [if_pos rfl,if_pos (by rw [mc]; exact hm)]
    have hxe : x = jd fun k => decide (8 * (i / 8) + k < i) && l.getD (8 * (i / 8) + k) false := by
      simp only [ge,List.getElem?_map,List.getElem?_range hm,Option.map_some,Option.some.injEq] at hx
      exact hx.symm
    simp only [ge,List.getElem?_map,List.getElem?_range hm,Option.map_some,Option.some.injEq]
    refine nC fun k hk => ?_
    rw [BC,zY (Nat.mod_lt _ (by omega)) hk,hxe,kI _ hk,kI _ hk]
    by_cases ek : k = i % 8
    · have : 8 * (i / 8) + k = i := by omega
      rw [this]; simp [ek,List.getD_eq_getElem?_getD,h]
    · have : (8 * (i / 8) + k < i + 1) ↔ (8 * (i / 8) + k < i) := by omega
      simp [ek,this]
  · rw [if_neg e]
    simp only [ge,List.getElem?_map]
    by_cases hj : j < (l.length + 7) / 8
    · simp only [List.getElem?_range hj,Option.map_some,Option.some.injEq]
      apply nl
      intro k _
      have : (8 * j + k < i + 1) ↔ (8 * j + k < i) := by omega
      simp [this]
    · simp [hj]
def bitOf (b : List UInt8) (i : Nat) : Bool := bitB (b.getD (i / 8) 0) (i % 8)
def di (b : List UInt8) (n : Int) : Bool := decide (0 ≤ n ∧ n ≤ 8 * b.length ∧ (n + 7) / 8 = b.length ∧ ∀ i,i < 8 * b.length → n.toNat ≤ i → bitOf b i = false)
def dh (b : List UInt8) (n : Int) : List Bool := if di b n then (List.range n.toNat).map (bitOf b) else []
theorem iJ {b : List UInt8}{n : Int} (h : ¬ (0 ≤ n ∧ n ≤ 8 * b.length ∧ (n + 7) / 8 = b.length)) : di b n = false := by
  unfold di
  apply decide_eq_false
  rintro ⟨a,c,d,_⟩
  exact h ⟨a,c,d⟩
theorem iK {b : List UInt8}{i : Nat}{x : UInt8} (h : b[i / 8]? = some x) : bitOf b i = decide ((x >>> UInt8.ofNat (i % 8)) &&& 1 = 1) := by
  rw [zZ x (Nat.mod_lt _ (by omega))]
  simp [bitOf,List.getD_eq_getElem?_getD,h]
def yd (b : List UInt8) (n i : Nat) : List Bool := (List.range n).map fun j => decide (j < i) && bitOf b j
@[simp] theorem Bp (b : List UInt8) (n i : Nat) : (yd b n i).length = n := by simp [yd]
theorem ji {b : List UInt8}{n : Nat} (h : n ≤ 8 * b.length ∧ (n + 7) / 8 = b.length) : di b (n : Int) = decide (∀ i,i < 8 * b.length → n ≤ i → bitOf b i = false) := by
  unfold di
  apply decide_eq_decide.2
  rw [Int.toNat_natCast]
  constructor
  · rintro ⟨_,_,_,h4⟩; exact h4
  · intro h4; exact ⟨by omega,by omega,by omega,h4⟩
theorem nD {b : List UInt8}{n : Nat} (h : di b (n : Int) = true) : dh b (n : Int) = (List.range n).map (bitOf b) := by rw [dh,if_pos h,Int.toNat_natCast]
theorem qe (b : List UInt8) (i : Nat) : (List.range (i + 1)).map (bitOf b) = (List.range i).map (bitOf b) ++ [bitOf b i] := by rw [List.range_succ,List.map_append]; rfl
theorem pM (l : List Bool) : di (packL l) (l.length : Int) = true ∧ dh (packL l) (l.length : Int) = l := by
  have hb : ∀ i,i < 8 * (packL l).length → bitOf (packL l) i = l.getD i false := by
    intro i hi
    rw [ij] at hi
    have hj : i / 8 < (l.length + 7) / 8 := by omega
    have : (packL l).getD (i / 8) 0 = jd fun k => l.getD (8 * (i / 8) + k) false := by simp [packL,List.getD_eq_getElem?_getD,List.getElem?_range hj]
    unfold bitOf
    rw [this,kI _ (Nat.mod_lt _ (by omega))]
    congr 1
    omega
  have hok : di (packL l) (l.length : Int) = true := by
    rw [ji (by rw [ij]; omega)]
    apply decide_eq_true
    intro i hi hn
    rw [hb i hi]
    simp [List.getD_eq_getElem?_getD,List.getElem?_eq_none hn]
  refine ⟨hok, ?_⟩
  rw [nD hok]
  apply List.ext_getElem?
  intro i
  by_cases hi : i < l.length
  · rw [List.getElem?_map,List.getElem?_range hi,Option.map_some,hb i (by rw [ij]; omega)]
    simp [List.getD_eq_getElem?_getD,hi]
  · simp [hi]
theorem mN (l : List UInt16) : fA (bW l) = true ∧ fd (bW l) = l := by
  have h := qU l
  exact ⟨h,by rw [fd,if_pos h,nN]⟩
theorem co (b : List UInt8) (cl_b : Bool) (n : Int) (hb : b.length ≤ 140737488351232) :
    T Tryz.prog 63 [pS 1 cl_b az b,pI n] 0 [] (Ret (PV.ref 0 0 none) 1 [(0,oB true 1 az (b ++ aJ n))]) := by
 refine bn aF (n := 16) (rs := [.tmp 4]) Tryz.func63 Z Z Z Z (nb Z) ?_
 intro c N hk
 refine sr (ae N Z Z (sr (qo N Z (bM (f := az) ([] : List UInt8) tab_38 Z tab_5 ⟨Z,by decide⟩ (by decide) Z Z Z Z ?_))))
 refine qm N Z Z (qo N Z (bZ (f := az) (l := ([] : List UInt8)) (xs := b) tab_38 Z tab_5 ⟨Z,by decide,by decide⟩ (da tab_38 Z (cf (f := az) Z)) Z Z (by (simp; omega)) ?_))
 refine qm N Z Z (qo N Z (hY aD jR Z Z Z ?_))
 refine qo N Z (rB 8 Z Z (by decide) ?_)
 refine qo N Z (nZ jR tab_5 Z Z Z ?_)
 refine qm N Z Z (qo N Z (nZ aD tab_5 Z Z Z ?_))
 refine qo N Z (bM (f := az) [bz ((IntKind.u64.wrap n) / 2 ^ 8),bz n] tab_38 Z tab_5 ⟨Z,by decide⟩ (by decide) Z Z Z Z ?_)
 refine qo N Z (bZ (f := az) (l := b) (xs := [bz ((IntKind.u64.wrap n) / 2 ^ 8),bz n]) tab_38 Z tab_5 ⟨Z,by decide,by decide⟩ (da tab_38 Z (ct (f := az) Z Z)) Z Z (by (simp; omega)) ?_)
 let Y : Nat × Pv.Obj := (2,oB true 1 az [bz ((IntKind.u64.wrap n) / 2 ^ 8),bz n])
 refine qa N Z Z (aE [(4,PV.ref 3 0 none)] [(3,oB true 1 az (b ++ [bz ((IntKind.u64.wrap n) / 2 ^ 8),bz n])),Y] 4 ⟨Z,trivial⟩ Z Z (re (eN (H' := [(3,oB true 1 az (b ++ aJ n)),Y]) (congrArg (fun z => ([(3,oB true 1 az z),Y] : ah)) (show b ++ [bz ((IntKind.u64.wrap n) / 2 ^ 8),bz n] = b ++ aJ n by (rw [aJ,← yx n]; done))) (w_ret ?_))))
 exact bB (nx1 := 1) (H1 := [(0,oB true 1 az (b ++ aJ n))]) [(0,3)] (ret_tmp Z ret_nil) Z (by decide) ⟨⟨_,_,Z,Z,Z,Z⟩,trivial⟩ (by decide) Z ⟨Z,Z,Z⟩
theorem mK (b : List UInt8) (cl_b : Bool) (k : Int) (hb : b.length ≤ 140737488355328) (hk0 : k ≤ 9223372036854775807) :
    T Tryz.prog 65 [pS 1 cl_b az b,pI k] 0 [] (Ret (PV.tup [pI (bA b k),pB (gg b k)]) 0 []) := by
 refine bn aF (n := 28) (rs := [.tmp 4,.tmp 5]) Tryz.func65 Z Z Z Z (nb Z) ?_
 intro c N hk
 refine sr (xp N 2 [.o 2] [] [] (re (an (sr (xp N 3 [.o 3] [] [(8,pB (decide (k < 0)))] ?_)))))
 refine bS aF N Z Z Z (fun g1 => ?_) (fun g1 => ?_)
 ·have g1' := g1
  try simp only [sB] at g1'
  refine qm N Z Z (bh (s := 8) Z (congrArg pB g1) (xp N 5 [.o 1,.c (pN b.length),.o 3] [cC az b,bu (((b.length : Nat) : Int) - 2)] [(14,pB (decide (((b.length : Nat) : Int) - 2 < k)))] ?_ (hc := ⟨lenC_ok _ _,by unfold bu; (omega),trivial⟩)))
  refine re (av Z (fun c1 => ?_) (fun c1 => ?_))
  ·try simp only [sB] at c1
   have eo : gg b k = false := by unfold gg; apply decide_eq_false; omega
   exact sr (qa N Z Z (ae N Z Z (aq (s := 4) Z (congrArg pI (show 0 = (bA b k) by (simp [bA,eo]; done))) (aq (s := 5) Z (congrArg pB (show false = (gg b k) by (simp [bA,eo]; done))) (w_ret (af fp))))))
  try simp only [sB] at c1
  refine aw (ak (an ?_))
  have eo : gg b k = true := by unfold gg; apply decide_eq_true; omega
  obtain ⟨kn,hkn⟩ : ∃ kn : Nat,k = (kn : Int) := ⟨k.toNat,by omega⟩
  refine aq (s := 1) Z (congrArg pI (show k = ((kn : Nat) : Int) by exact hkn)) (cK N (xq 2 [.o 2] [] ?_))
  obtain ⟨e1,he1⟩ := bl b (i := kn) (by omega)
  refine xk [(15,pS 1 cl_b az b),(16,pN kn)] [] [] [] [] (cA (q := kn) (b := e1) (f := az) tab_38 Z tab_5 Z Z (by omega) Z he1 ⟨Z,Z,Z⟩) (xq 2 [.o 2] [bu ((UInt8.toNat e1 : Nat) : Int)] ?_ (hc := ⟨by unfold bu; have := kb e1; omega,trivial⟩))
  refine xk [(19,pN (UInt8.toNat e1))] [] [] [] [] (Bf (a := UInt8.toNat e1) 8 Z (by omega) Z (by decide) (by have := kb e1; omega) ⟨Z,Z,Z⟩) (xq 3 [.o 3] [bu (((kn : Nat) : Int) + 1)] ?_ (hc := ⟨by unfold bu; (omega),trivial⟩))
  obtain ⟨e2,he2⟩ := bl b (i := kn + 1) (by omega)
  refine xk [(21,pS 1 cl_b az b),(23,pN (kn + 1))] [] [] [] [] (cA (q := kn + 1) (b := e2) (f := az) tab_38 Z tab_5 Z Z (by omega) Z he2 ⟨Z,Z,Z⟩) (xq 2 [.o 2] [bu ((UInt8.toNat e2 : Nat) : Int)] ?_ (hc := ⟨by unfold bu; have := kb e2; omega,trivial⟩))
  refine xk [(20,pN ((UInt8.toNat e1) * 2 ^ 8)),(26,pN (UInt8.toNat e2))] [] [] [] [] (x7 (a := (UInt8.toNat e1) * 2 ^ 8) (b := UInt8.toNat e2) Z Z (by omega) (by omega) (by have := kb e1; have := kb e2; omega) ⟨Z,Z,Z⟩) (xq 2 [.o 2] [] (xe [(4,pN (((UInt8.toNat e1) * 2 ^ 8) ||| (UInt8.toNat e2))),(5,pB true)] (re (aq (s := 4) Z (congrArg pI (show ((((UInt8.toNat e1) * 2 ^ 8) ||| (UInt8.toNat e2) : Nat) : Int) = (bA b k) by rw [bA,if_pos eo,hkn,Int.toNat_natCast,zO he1 he2,tj _ _ (kb _)])) (aq (s := 5) Z (congrArg pB (show true = (gg b k) by (simp [bA,eo]; done))) ?_)))))
  exact w_ret fp
 have g1' := g1
 try simp only [sB] at g1'
 have eo : gg b k = false := by unfold gg; apply decide_eq_false; omega
 refine bh (s := 8) Z (congrArg pB g1) (xp N 5 [.o 5] [] [(14,pB true)] (re (av Z (fun _ => ?_) (fun e => absurd e (by decide)))))
 exact sr (qa N Z Z (ae N Z Z (aq (s := 4) Z (congrArg pI (show 0 = (bA b k) by (simp [bA,eo]; done))) (aq (s := 5) Z (congrArg pB (show false = (gg b k) by (simp [bA,eo]; done))) (w_ret (af fp))))))
theorem iV (l : List Bool) (cl_l : Bool) (hl : l.length ≤ 140737488351232) :
    T Tryz.prog 61 [pS 1 cl_l ar l] 0 [] (Ret (PV.ref 0 0 none) 1 [(0,oB true 1 az (packL l))]) := by
 refine bn aF (n := 32) (rs := [.tmp 2]) Tryz.func61 Z Z Z Z (nb Z) ?_
 intro c N hk
 refine sr (ae N Z Z (sr (xp N 3 [.o 1,.c (pN l.length),.o 1] [cC ar l,bu (((l.length : Nat) : Int) + 7)] [(8,pN (l.length + 7))] ?_ (hc := ⟨lenC_ok _ _,by unfold bu; (omega),trivial⟩))))
 refine qo N Z (kB (a := l.length + 7) (b := 8) Z Z (by omega) (by omega) (by omega) ?_)
 refine qo N Z (yU (f := az) (bt := 1) yK (0 : UInt8) ((l.length + 7) / 8) (fun j hj => by cases hj; rfl) tab_38 Z tab_5 ⟨Z,by decide⟩ Z Z Z (by omega) (by refine ⟨?_, ?_, ?_⟩ <;> omega) ?_)
 let Y : Nat × PV := (3,PV.ref 0 0 none)
 refine qa N Z Z (aE [(0,pS 1 cl_l ar l),Y] [(0,oB true 1 az (List.replicate ((l.length + 7) / 8) (0 : UInt8)))] 1 ⟨Z,Z,trivial⟩ Z Z (re (an (sr (qm N Z Z (qo N Z (ca (l := l) bT Z (cf (f := ar) Z) ?_)))))))
 refine qm N Z Z (re (aP (gf (fun (os : List UInt8) (i : Nat) => i ≤ l.length ∧ os = ge l i) (fun (os : List UInt8) (i : Nat) => [Y,(11,pS 1 cl_l ar l),(12,pN l.length),(13,pN i)]) 1 (fun (os : List UInt8) (i : Nat) => [(0,oB true 1 az os)]) (fun (os : List UInt8) (i : Nat) => l.length - i) (List.replicate ((l.length + 7) / 8) (0 : UInt8)) (0) ?_ ⟨[(0,0)],by rw [hk]; decide,⟨⟨_,rfl,rfl,rfl⟩,⟨_,rfl,rfl,rfl⟩,⟨_,rfl,rfl,rfl⟩,⟨_,rfl,rfl,rfl⟩,trivial⟩,⟨⟨_,_,rfl,rfl,rfl,rfl⟩,trivial⟩,by rw [hk]; decide⟩ ?_)))
 · exact ⟨Nat.zero_le _,by (rw [ug]; done)⟩
 ·intro os i hI
  obtain ⟨hi,ho⟩ := hI
  have hol : os.length = (l.length + 7) / 8 := by rw [ho]; exact mc l i
  refine sr (qo N Z (cZ Z Z ?_))
  refine re (an (av Z (fun c1 => ?_) (fun c1 => ?_)))
  ·try simp only [sB] at c1
   refine aw (ak (an (aP (sr (qm N Z Z ?_)))))
   obtain ⟨e1,he1⟩ := bl l (i := i) (by omega)
   refine qo N Z (cA (q := i) (b := e1) (f := ar) bT Z dE Z Z (by omega) Z he1 ?_)
   refine xp N 3 [.o 3] [] [(4,pN i),(5,pB e1)] (re (sr (qm N Z Z (re (av Z (fun c2 => ?_) (fun c2 => ?_))))))
   ·try simp only [sB] at c2
    refine bk (qm N Z Z (qm N Z Z (qo N Z (kB (a := i) (b := 8) Z Z (by omega) (by omega) (by omega) ?_))))
    refine qo N Z (fg (q := i / 8) (f := az) (l := os) tab_38 Z tab_5 Z Z (by omega) Z Z (by omega) ?_)
    obtain ⟨e2,he2⟩ := bl os (i := i / 8) (by omega)
    refine qo N Z (hU (b := e2) (f := az) tab_5 Z Z Z Z he2 Z ?_)
    refine qm N Z Z (qo N Z (l4 (a := i) (b := 8) Z Z (by omega) (by omega) (by omega) ?_))
    refine qo N Z (qw aD jR Z Z Z Z (by exact ⟨by omega,by show _ < (18446744073709551616 : Int); omega⟩) ?_)
    refine qo N Z (Bg (a := 1) (i % 8) Z Z (by rfl) (by omega) ?_)
    refine qo N Z (BX (a := e2) (b := 1 <<< UInt8.ofNat (i % 8)) Z Z ?_)
    refine qo N Z (fg (q := i / 8) (f := az) (l := os) tab_38 Z tab_5 Z Z (by omega) Z Z (by omega) ?_)
    refine qo N Z (BV (y0 := e2) (z := e2 ||| (1 <<< UInt8.ofNat (i % 8))) (f := az) tab_5 Z Z Z Z Z he2 (nb Z) Z Z (by simp) Z ?_)
    refine aE [Y,(11,pS 1 cl_l ar l),(12,pN l.length),(13,pN i)] [(0,oB true 1 az (os.set (i / 8) (e2 ||| (1 <<< UInt8.ofNat (i % 8)))))] 1 ⟨Z,Z,Z,Z,trivial⟩ Z Z (bG (aG (ak (bk (qo N Z (cm (a := i) (b := 1) Z Z (by omega) (by omega) (by omega) ?_))))))
    refine qm N Z Z (re (⟨(os.set (i / 8) (e2 ||| (1 <<< UInt8.ofNat (i % 8)))),(i + 1), ?_, ?_,⟨[(0,0)],by rw [hk]; decide,⟨⟨_,rfl,rfl,rfl⟩,⟨_,rfl,rfl,rfl⟩,⟨_,rfl,rfl,rfl⟩,⟨_,rfl,rfl,rfl⟩,trivial⟩,⟨⟨_,_,rfl,rfl,rfl,rfl⟩,trivial⟩,by rw [hk]; decide⟩⟩))
    ·refine ⟨by omega, ?_⟩
     (subst ho; exact vk (by rw [he1,c2]) he2)
    · omega
   try simp only [sB] at c2
   refine aw (aG (ak (bk (qo N Z (cm (a := i) (b := 1) Z Z (by omega) (by omega) (by omega) ?_)))))
   refine qm N Z Z (re (⟨(os),(i + 1), ?_, ?_,⟨[(0,0)],by rw [hk]; decide,⟨⟨_,rfl,rfl,rfl⟩,⟨_,rfl,rfl,rfl⟩,⟨_,rfl,rfl,rfl⟩,⟨_,rfl,rfl,rfl⟩,trivial⟩,⟨⟨_,_,rfl,rfl,rfl,rfl⟩,trivial⟩,by rw [hk]; decide⟩⟩))
   ·refine ⟨by omega, ?_⟩
    (rw [xg (by rw [he1,c2]),ho]; done)
   · omega
  try simp only [sB] at c1
  refine cG (aL (aL (bq (ak (sr (qm N Z Z (ae N Z Z (eN (H' := [(0,oB true 1 az (packL l))]) (congrArg (fun z => ([(0,oB true 1 az z)] : ah)) (show os = packL l by rw [ho,show i = l.length by omega,vl])) (w_ret ?_)))))))))
  exact bB (nx1 := 1) (H1 := [(0,oB true 1 az (packL l))]) [(0,0)] (ret_tmp Z ret_nil) Z (by decide) ⟨⟨_,_,Z,Z,Z,Z⟩,trivial⟩ (by decide) Z ⟨Z,Z,Z⟩
theorem ga (l : List UInt16) (cl_l : Bool) (hl : l.length * 2 ≤ 140737488351232) :
    T Tryz.prog 62 [pS 1 cl_l aj l] 0 [] (Ret (PV.ref 0 0 none) 1 [(0,oB true 1 az (bW l))]) := by
 refine bn aF (n := 22) (rs := [.tmp 2]) Tryz.func62 Z Z Z Z (nb Z) ?_
 intro c N hk
 refine sr (ae N Z Z (sr (ae N Z Z (an (sr (qm N Z Z (qo N Z (ca (l := l) bf Z (cf (f := aj) Z) ?_))))))))
 refine qm N Z Z (re (aP (dD (s := 3) (sz := 1) Z (gf (fun (os : List UInt8) (i : Nat) => i ≤ l.length ∧ os = bW (l.take i)) (fun (os : List UInt8) (i : Nat) => [(3,PV.ref 0 0 none),(6,pS 1 cl_l aj l),(7,pN l.length),(8,pN i)]) 1 (fun (os : List UInt8) (i : Nat) => [(0,oB true 1 az os)]) (fun (os : List UInt8) (i : Nat) => l.length - i) (([] : List UInt8)) (0) ?_ ⟨[(0,0)],by rw [hk]; decide,⟨⟨_,rfl,rfl,rfl⟩,⟨_,rfl,rfl,rfl⟩,⟨_,rfl,rfl,rfl⟩,⟨_,rfl,rfl,rfl⟩,trivial⟩,⟨⟨_,_,rfl,rfl,rfl,rfl⟩,trivial⟩,by rw [hk]; decide⟩ ?_))))
 · exact ⟨Nat.zero_le _,Z⟩
 ·intro os i hI
  obtain ⟨hi,ho⟩ := hI
  have hol : os.length = 2 * i := by rw [ho,js,List.length_take]; omega
  refine sr (qo N Z (cZ Z Z ?_))
  refine re (an (av Z (fun c1 => ?_) (fun c1 => ?_)))
  ·try simp only [sB] at c1
   refine aw (ak (an (aP (sr ?_))))
   obtain ⟨e1,he1⟩ := bl l (i := i) (by omega)
   refine qo N Z (cA (q := i) (b := e1) (f := aj) bf Z bE Z Z (by omega) Z he1 ?_)
   refine xp N 2 [.o 2] [] [(5,au e1)] (re (bk (qm N Z Z (qm N Z Z (qo N Z (yP (a := e1) 8 Z Z (by decide) ?_))))))
   refine qo N Z (pJ (a := e1 >>> UInt16.ofNat 8) bE tab_5 Z Z Z ?_)
   refine qm N Z Z (qo N Z (pJ (a := e1) bE tab_5 Z Z Z ?_))
   refine qo N Z (bM (f := az) [(e1 >>> UInt16.ofNat 8).toUInt8,e1.toUInt8] tab_38 Z tab_5 ⟨Z,by decide⟩ (by decide) Z Z Z Z ?_)
   refine qo N Z (bZ (f := az) (l := os) (xs := [(e1 >>> UInt16.ofNat 8).toUInt8,e1.toUInt8]) tab_38 Z tab_5 ⟨Z,by decide,by decide⟩ (da tab_38 Z (ct (f := az) Z Z)) Z Z (by (simp; omega)) ?_)
   refine qa N Z Z (aE [(3,PV.ref 2 0 none),(6,pS 1 cl_l aj l),(7,pN l.length),(8,pN i)] [(2,oB true 1 az (os ++ [(e1 >>> UInt16.ofNat 8).toUInt8,e1.toUInt8])),(1,oB true 1 az [(e1 >>> UInt16.ofNat 8).toUInt8,e1.toUInt8])] 3 ⟨Z,Z,Z,Z,trivial⟩ Z Z (bG (aG (ak (bk (qo N Z (cm (a := i) (b := 1) Z Z (by omega) (by omega) (by omega) ?_)))))))
   refine qm N Z Z (re (⟨(os ++ [(e1 >>> UInt16.ofNat 8).toUInt8,e1.toUInt8]),(i + 1), ?_, ?_,⟨[(0,2)],by rw [hk]; decide,⟨⟨_,rfl,rfl,rfl⟩,⟨_,rfl,rfl,rfl⟩,⟨_,rfl,rfl,rfl⟩,⟨_,rfl,rfl,rfl⟩,trivial⟩,⟨⟨_,_,rfl,rfl,rfl,rfl⟩,trivial⟩,by rw [hk]; decide⟩⟩))
   ·exact ⟨by omega,by rw [sY he1,ho]⟩
   · omega
  try simp only [sB] at c1
  let Y : ah := [(0,oB true 1 az (bW l))]
  refine cG (aL (aL (bq (ak (sr (qm N Z Z (ae N Z Z (eN (H' := Y) (congrArg (fun z => ([(0,oB true 1 az z)] : ah)) (show os = bW l by rw [ho,List.take_of_length_le (by omega)])) (w_ret ?_)))))))))
  exact bB (nx1 := 1) (H1 := Y) [(0,0)] (ret_tmp Z ret_nil) Z (by decide) ⟨⟨_,_,Z,Z,Z,Z⟩,trivial⟩ (by decide) Z ⟨Z,Z,Z⟩
theorem lH (b : List UInt8) (cl_b : Bool) (hb : b.length ≤ 140737488351232) :
    T Tryz.prog 66 [pS 1 cl_b az b] 0 [] (Ret (PV.tup [pS 1 false aj (fd b),pB (fA b)]) 0 []) := by
 refine bn aF (n := 33) (rs := [.tmp 2,.tmp 3]) Tryz.func66 Z Z Z Z (nb Z) ?_
 intro c N hk
 refine sr (xp N 2 [.o 2] [] [] (re (an (sr (qm N Z Z ?_)))))
 refine qo N Z (ca (l := b) tab_38 Z (cf (f := az) Z) ?_)
 refine qo N Z (l4 (a := b.length) (b := 2) Z Z (by omega) (by omega) (by omega) ?_)
 refine qo N Z (el Z Z ?_)
 refine re (av Z (fun c1 => ?_) (fun c1 => ?_))
 ·try simp only [sB] at c1
  have eo : fA b = false := by unfold fA; apply decide_eq_false; omega
  exact sr (qa N Z Z (ae N Z Z (dw (s := 2) (y := pS 1 false aj []) Z (ax 1 false) (aq (s := 2) Z (congrArg (fun z => pS 1 false aj z) (show ([] : List UInt16) = (fd b) by (simp [fd,eo]; done))) (aq (s := 3) Z (congrArg pB (show false = (fA b) by exact eo.symm)) (w_ret (af fp)))))))
 try simp only [sB] at c1
 have hev : b.length % 2 = 0 := by omega
 have eo : fA b = true := by unfold fA; exact decide_eq_true hev
 refine aw (ak (sr (ae N Z Z (an (sr (ae N Z Z (aP (dD (s := 4) (sz := 1) Z (gf (fun (os : List UInt16) (i : Nat) => i ≤ b.length ∧ i % 2 = 0 ∧ os = eU (b.take i)) (fun (os : List UInt16) (i : Nat) => [(0,pS 1 cl_b az b),(4,PV.ref 0 0 none),(5,pN i)]) 1 (fun (os : List UInt16) (i : Nat) => [(0,oB true 1 aj os)]) (fun (os : List UInt16) (i : Nat) => b.length - i) (([] : List UInt16)) (0) ?_ ⟨[(0,0)],by rw [hk]; decide,⟨⟨_,rfl,rfl,rfl⟩,⟨_,rfl,rfl,rfl⟩,⟨_,rfl,rfl,rfl⟩,trivial⟩,⟨⟨_,_,rfl,rfl,rfl,rfl⟩,trivial⟩,by rw [hk]; decide⟩ ?_)))))))))
 · exact ⟨Nat.zero_le _,Z,Z⟩
 ·intro os i hI
  obtain ⟨hi,hi2,ho⟩ := hI
  have hol : os.length = i / 2 := by rw [ho,jl,List.length_take]; omega
  refine an (sr (qm N Z Z (qm N Z Z (qo N Z (ca (l := b) tab_38 Z (cf (f := az) Z) ?_)))))
  refine qo N Z (cZ Z Z ?_)
  refine re (av Z (fun c2 => ?_) (fun c2 => ?_))
  ·try simp only [sB] at c2
   refine aw (ak (an (aP (cK N (xq 3 [.o 3] [] ?_)))))
   obtain ⟨e1,he1⟩ := bl b (i := i) (by omega)
   let Y0 : ah := [(0,oB true 1 aj os)]
   refine xk [(17,pS 1 cl_b az b),(18,pN i)] [] [] [] Y0 (cA (q := i) (b := e1) (f := az) tab_38 Z tab_5 Z Z (by omega) Z he1 ⟨Z,Z,Z⟩) (xq 1 [.o 1] [] (xk [(20,p8 e1)] [] [] [] Y0 (pH (a := e1) tab_5 bE Z Z Z ⟨Z,Z,Z⟩) (xk [(21,au e1.toUInt16)] [] [] [] Y0 (yQ (a := e1.toUInt16) 8 Z Z (by decide) ⟨Z,Z,Z⟩) (xq 3 [.o 3] [bu (((i : Nat) : Int) + 1)] ?_ (hc := ⟨by unfold bu; (omega),trivial⟩)))))
   obtain ⟨e2,he2⟩ := bl b (i := i + 1) (by omega)
   let Y : Nat × Pv.Obj := (1,oB true 1 aj [(e1.toUInt16 <<< UInt16.ofNat 8) ||| e2.toUInt16])
   let Y1 : ah := [(2,oB true 1 aj (os ++ [(e1.toUInt16 <<< UInt16.ofNat 8) ||| e2.toUInt16])),Y]
   refine xk [(23,pS 1 cl_b az b),(25,pN (i + 1))] [] [] [] Y0 (cA (q := i + 1) (b := e2) (f := az) tab_38 Z tab_5 Z Z (by omega) Z he2 ⟨Z,Z,Z⟩) (xq 1 [.o 1] [] (xk [(27,p8 e2)] [] [] [] Y0 (pH (a := e2) tab_5 bE Z Z Z ⟨Z,Z,Z⟩) (xk [(22,au (e1.toUInt16 <<< UInt16.ofNat 8)),(28,au e2.toUInt16)] [] [] [] Y0 (Bh (a := e1.toUInt16 <<< UInt16.ofNat 8) (b := e2.toUInt16) Z Z ⟨Z,Z,Z⟩) (xk [(29,au ((e1.toUInt16 <<< UInt16.ofNat 8) ||| e2.toUInt16))] [] [] [Y] [Y,(0,oB true 1 aj os)] (bM (f := aj) [(e1.toUInt16 <<< UInt16.ofNat 8) ||| e2.toUInt16] bf Z bE ⟨Z,by decide⟩ (by decide) Z Z Z Z ⟨Z,Z,Z⟩) (xk [(16,PV.ref 0 0 none),(30,PV.ref 1 0 none)] [Y] Y0 Y1 Y1 (bZ (f := aj) (l := os) (xs := [(e1.toUInt16 <<< UInt16.ofNat 8) ||| e2.toUInt16]) bf Z bE ⟨Z,by decide,by decide⟩ (da bf Z (ct (f := aj) Z Z)) Z Z (by (simp; omega)) ⟨Z,Z,Z⟩) ?_ (hs := ⟨Z,trivial⟩))))))
   refine xq 1 [.o 1] [] (xe [(0,pS 1 cl_b az b),(4,PV.ref 2 0 none),(5,pN i)] (bG (aG (ak (bk ?_)))))
   refine qm N Z Z (qo N Z (cm (a := i) (b := 2) Z Z (by omega) (by omega) (by omega) ?_))
   refine ae N Z Z (⟨(os ++ [(e1.toUInt16 <<< UInt16.ofNat 8) ||| e2.toUInt16]),(i + 2), ?_, ?_,⟨[(0,2)],by rw [hk]; decide,⟨⟨_,rfl,rfl,rfl⟩,⟨_,rfl,rfl,rfl⟩,⟨_,rfl,rfl,rfl⟩,trivial⟩,⟨⟨_,_,rfl,rfl,rfl,rfl⟩,trivial⟩,by rw [hk]; decide⟩⟩)
   ·refine ⟨by omega,by omega, ?_⟩
    rw [sw hi2 he1 he2,ho]; rfl
   · omega
  try simp only [sB] at c2
  refine cG (aL (aL (bq (ak (sr ?_)))))
  exact xp N 3 [.o 3] [] [(2,PV.ref 0 0 none),(3,pB true)] (re (gE (s := 2) (f := aj) Z Z gG (aq (s := 2) Z (congrArg (fun z => pS 1 false aj z) (show os = (fd b) by rw [fd,if_pos eo,ho,List.take_of_length_le (by omega)])) (aq (s := 3) Z (congrArg pB (show true = (fA b) by exact eo.symm)) (w_ret fp)))))
theorem kS (b : List UInt8) (cl_b : Bool) (n : Int) (hb : b.length ≤ 140737488355328) (hn : n ≤ 140737488351232) :
    T Tryz.prog 38 [pS 1 cl_b az b,pI n] 0 [] (Ret (PV.tup [pS 1 false ar (dh b n),pB (di b n)]) 0 []) := by
 refine bn aF (n := 53) (rs := [.tmp 4,.tmp 5]) Tryz.func38 Z Z Z Z (nb Z) ?_
 intro c N hk
 refine sr (xp N 2 [.o 2] [] [] (re (an (sr (xp N 3 [.o 3] [] [(11,pB (decide (n < 0)))] ?_)))))
 refine bS aF N Z Z Z (fun g1 => ?_) (fun g1 => ?_)
 ·have g1' := g1
  try simp only [sB] at g1'
  obtain ⟨kn,hkn⟩ : ∃ kn : Nat,n = (kn : Int) := ⟨n.toNat,by omega⟩
  refine bh (s := 1) Z (congrArg pI (show n = ((kn : Nat) : Int) by exact hkn)) (qm N Z Z (bh (s := 11) Z (congrArg pB g1) (xp N 6 [.o 1,.c (pN b.length),.o 4] [cC az b,bu (8 * ((b.length : Nat) : Int))] [(18,pB (decide (((8 * b.length : Nat) : Int) < ((kn : Nat) : Int))))] ?_ (hc := ⟨lenC_ok _ _,by unfold bu; (omega),trivial⟩))))
  refine bS aF N Z Z Z (fun g2 => ?_) (fun g2 => ?_)
  ·have g2' := g2
   try simp only [sB] at g2'
   refine qm N Z Z (bh (s := 18) Z (congrArg pB g2) (xp N 3 [.c (pN b.length),.o 2] [cC az b,bu (((kn : Nat) : Int) + 7)] [(20,pN b.length),(22,pN (kn + 7))] ?_ (hc := ⟨lenC_ok _ _,by unfold bu; (omega),trivial⟩)))
   refine ry N Z Z Z Z (qo N Z (kB (a := kn + 7) (b := 8) Z Z (by omega) (by omega) (by omega) ?_))
   refine xp N 2 [.o 2] [] [(25,pB (!decide (((b.length : Nat) : Int) = (((kn + 7) / 8 : Nat) : Int))))] (re (av Z (fun c1 => ?_) (fun c1 => ?_)))
   ·try simp only [sB] at c1
    have eo : di b n = false := iJ (by omega)
    exact sr (qa N Z Z (ae N Z Z (dw (s := 4) (y := pS 1 false ar []) Z (ax 1 false) (aq (s := 4) Z (congrArg (fun z => pS 1 false ar z) (show ([] : List Bool) = (dh b n) by (simp [dh,eo]; done))) (aq (s := 5) Z (congrArg pB (show false = (di b n) by exact eo.symm)) (w_ret (af fp)))))))
   try simp only [sB] at c1
   have hlen : (kn + 7) / 8 = b.length := by omega
   have hbd : kn ≤ 8 * b.length := by omega
   refine aw (ak (sr (ae N Z Z (an (sr (ae N Z Z (aP (dD (s := 6) (sz := 1) Z (gf (fun (os : List Bool) (i : Nat) => i ≤ 8 * b.length ∧ os = (List.range (min i kn)).map (bitOf b) ∧ ∀ j,j < i → kn ≤ j → bitOf b j = false) (fun (os : List Bool) (i : Nat) => [(0,pS 1 cl_b az b),(1,pN kn),(6,PV.ref 0 0 none),(7,pN i)]) 1 (fun (os : List Bool) (i : Nat) => [(0,oB true 1 ar os)]) (fun (os : List Bool) (i : Nat) => 8 * b.length - i) (([] : List Bool)) (0) ?_ ⟨[(0,0)],by rw [hk]; decide,⟨⟨_,rfl,rfl,rfl⟩,⟨_,rfl,rfl,rfl⟩,⟨_,rfl,rfl,rfl⟩,⟨_,rfl,rfl,rfl⟩,trivial⟩,⟨⟨_,_,rfl,rfl,rfl,rfl⟩,trivial⟩,by rw [hk]; decide⟩ ?_)))))))))
   · exact ⟨Nat.zero_le _,by simp,fun j hj => by omega⟩
   ·intro os i hI
    obtain ⟨hi,ho,hz⟩ := hI
    have hol : os.length ≤ i := by rw [ho]; simp; omega
    refine an (sr (xp N 5 [.o 2,.c (pN b.length),.o 2] [cC az b,bu (8 * ((b.length : Nat) : Int))] [(30,pB (decide (((i : Nat) : Int) < ((8 * b.length : Nat) : Int))))] ?_ (hc := ⟨lenC_ok _ _,by unfold bu; (omega),trivial⟩)))
    refine re (av Z (fun c2 => ?_) (fun c2 => ?_))
    ·try simp only [sB] at c2
     refine aw (ak (an (aP (sr (qm N Z Z (qm N Z Z (qo N Z (kB (a := i) (b := 8) Z Z (by omega) (by omega) (by omega) ?_))))))))
     obtain ⟨e1,he1⟩ := bl b (i := i / 8) (by omega)
     refine qo N Z (cA (q := i / 8) (b := e1) (f := az) tab_38 Z tab_5 Z Z (by omega) Z he1 ?_)
     refine xp N 2 [.o 2] [] [(37,p8 e1),(38,pN i)] (qo N Z (l4 (a := i) (b := 8) Z Z (by omega) (by omega) (by omega) ?_))
     refine qo N Z (qw aD jR Z Z Z Z (by exact ⟨by omega,by show _ < (18446744073709551616 : Int); omega⟩) ?_)
     refine qo N Z (uX (a := e1) (i % 8) Z Z (by rfl) (by omega) ?_)
     refine qo N Z (u7 (a := e1 >>> UInt8.ofNat (i % 8)) (b := 1) Z Z ?_)
     refine qo N Z (rD (a := (e1 >>> UInt8.ofNat (i % 8)) &&& 1) (b := 1) Z Z ?_)
     refine ae N Z Z (sr (qm N Z Z (qm N Z Z (qo N Z (cZ Z Z ?_)))))
     refine re (av Z (fun c3 => ?_) (fun c3 => ?_))
     ·try simp only [sB] at c3
      refine bk (qm N Z Z (qm N Z Z (qo N Z (bM (f := ar) [decide ((e1 >>> UInt8.ofNat (i % 8)) &&& 1 = 1)] bT Z dE ⟨Z,by decide⟩ (by decide) Z Z Z Z ?_))))
      refine qo N Z (bZ (f := ar) (l := os) (xs := [decide ((e1 >>> UInt8.ofNat (i % 8)) &&& 1 = 1)]) bT Z dE ⟨Z,by decide,by decide⟩ (da bT Z (ct (f := ar) Z Z)) Z Z (by (simp; omega)) ?_)
      refine qa N Z Z (aE [(0,pS 1 cl_b az b),(1,pN kn),(6,PV.ref 2 0 none),(7,pN i)] [(2,oB true 1 ar (os ++ [decide ((e1 >>> UInt8.ofNat (i % 8)) &&& 1 = 1)])),(1,oB true 1 ar [decide ((e1 >>> UInt8.ofNat (i % 8)) &&& 1 = 1)])] 3 ⟨Z,Z,Z,Z,trivial⟩ Z Z (bG (aG (ak (bk (qm N Z Z (qo N Z (cm (a := i) (b := 1) Z Z (by omega) (by omega) (by omega) ?_))))))))
      refine ae N Z Z (⟨(os ++ [decide ((e1 >>> UInt8.ofNat (i % 8)) &&& 1 = 1)]),(i + 1), ?_, ?_,⟨[(0,2)],by rw [hk]; decide,⟨⟨_,rfl,rfl,rfl⟩,⟨_,rfl,rfl,rfl⟩,⟨_,rfl,rfl,rfl⟩,⟨_,rfl,rfl,rfl⟩,trivial⟩,⟨⟨_,_,rfl,rfl,rfl,rfl⟩,trivial⟩,by rw [hk]; decide⟩⟩)
      ·(refine ⟨by omega, ?_,fun j hj hn => hz j (by omega) hn⟩; rw [show min (i + 1) kn = i + 1 by omega,qe,iK he1,ho,show min i kn = i by omega])
      · omega
     try simp only [sB] at c3
     refine sr (qm N Z Z (re (av Z (fun c4 => ?_) (fun c4 => ?_))))
     ·have c4_ := c4
      try simp only [sB] at c4
      have hbi : bitOf b i = true := by rw [iK he1]; simpa using c4_
      have eo : di b n = false := by rw [hkn,ji ⟨hbd,hlen⟩]; exact decide_eq_false fun h => by rw [h i (by omega) (by omega)] at hbi; cases hbi
      refine sr (qa N Z Z (ae N Z Z (dw (s := 4) (y := pS 1 false ar []) Z (ax 1 false) (aq (s := 4) Z (congrArg (fun z => pS 1 false ar z) (show ([] : List Bool) = (dh b n) by (simp [dh,eo]; done))) (aq (s := 5) Z (congrArg pB (show false = (di b n) by exact eo.symm)) (w_ret (am (af (af ?_)))))))))
      exact am (af fp)
     have c4_ := c4
     try simp only [sB] at c4
     have hbi : bitOf b i = false := by rw [iK he1]; simpa using c4_
     refine aw (aG (ak (bk (qm N Z Z (qo N Z (cm (a := i) (b := 1) Z Z (by omega) (by omega) (by omega) ?_))))))
     refine ae N Z Z (⟨(os),(i + 1), ?_, ?_,⟨[(0,0)],by rw [hk]; decide,⟨⟨_,rfl,rfl,rfl⟩,⟨_,rfl,rfl,rfl⟩,⟨_,rfl,rfl,rfl⟩,⟨_,rfl,rfl,rfl⟩,trivial⟩,⟨⟨_,_,rfl,rfl,rfl,rfl⟩,trivial⟩,by rw [hk]; decide⟩⟩)
     ·(refine ⟨by omega,by rw [ho,show min (i + 1) kn = min i kn by omega],fun j hj hn => ?_⟩; by_cases hji : j < i; exact hz j hji hn; obtain rfl : j = i := (by omega); exact hbi)
     · omega
    try simp only [sB] at c2
    have hoe : os = (List.range kn).map (bitOf b) := by rw [ho,show min i kn = kn by omega]
    have eo : di b n = true := by rw [hkn,ji ⟨hbd,hlen⟩]; exact decide_eq_true fun j hj hn => hz j (by omega) hn
    refine cG (aL (aL (bq (ak (sr ?_)))))
    exact xp N 3 [.o 3] [] [(4,PV.ref 0 0 none),(5,pB true)] (re (gE (s := 4) (f := ar) Z Z gG (aq (s := 4) Z (congrArg (fun z => pS 1 false ar z) (show os = (dh b n) by (rw [hkn,nD (by rw [← hkn]; exact eo),hoe]))) (aq (s := 5) Z (congrArg pB (show true = (di b n) by exact eo.symm)) (w_ret fp)))))
  have g2' := g2
  try simp only [sB] at g2'
  have eo : di b n = false := iJ (by omega)
  refine bh (s := 18) Z (congrArg pB g2) (xp N 6 [.o 6] [] [(25,pB true)] (re (av Z (fun _ => ?_) (fun e => absurd e (by decide)))))
  exact sr (qa N Z Z (ae N Z Z (dw (s := 4) (y := pS 1 false ar []) Z (ax 1 false) (aq (s := 4) Z (congrArg (fun z => pS 1 false ar z) (show ([] : List Bool) = (dh b n) by (simp [dh,eo]; done))) (aq (s := 5) Z (congrArg pB (show false = (di b n) by exact eo.symm)) (w_ret (af fp)))))))
 have g1' := g1
 try simp only [sB] at g1'
 have eo : di b n = false := iJ (by omega)
 refine bh (s := 11) Z (congrArg pB g1) (xp N 13 [.o 13] [] [(25,pB true)] (re (av Z (fun _ => ?_) (fun e => absurd e (by decide)))))
 exact sr (qa N Z Z (ae N Z Z (dw (s := 4) (y := pS 1 false ar []) Z (ax 1 false) (aq (s := 4) Z (congrArg (fun z => pS 1 false ar z) (show ([] : List Bool) = (dh b n) by (simp [dh,eo]; done))) (aq (s := 5) Z (congrArg pB (show false = (di b n) by exact eo.symm)) (w_ret (af fp)))))))
def bO (n : Int) : Bool := decide ((1 ≤ n ∧ n ≤ 6) ∨ n = 8 ∨ n = 15 ∨ n = 16 ∨ n = 17 ∨ n = 22 ∨ n = 23)
theorem hasF_of {n : Int} (h : bO n = true) : n = 1 ∨ n = 2 ∨ n = 3 ∨ n = 4 ∨ n = 5 ∨ n = 6 ∨ n = 8 ∨ n = 15 ∨ n = 16 ∨ n = 17 ∨ n = 22 ∨ n = 23 := by
  have := of_decide_eq_true h; omega
def aY (n : Int) : Bool := decide (0 ≤ n ∧ n ≤ 65535)
def aV (n : Int) : List UInt8 := if n = 1 ∨ n = 2 ∨ n = 3 ∨ n = 4 then [97,99] else if n = 5 then [97,98] else if n = 6 then [97,118] else if n = 8 then [115,118] else if n = 15 then [97,99,98] else if n = 16 then [97,99,118] else if n = 22 then [97,109] else if n = 23 then [97,99,119,118] else []
theorem fe (n : Int) : (aV n).length ≤ 4 := by
  unfold aV
  repeat' split
  all_goals simp
def inS (s : List UInt8) (c : UInt8) : Bool := decide (c ∈ s)
def dk (q : TRequest) : Bool :=
  if q.fn = 5 then decide (q.bits.length = 1) else if q.fn = 6 ∨ q.fn = 8 then decide (q.vals.length = 1) else if q.fn = 15 then decide ((q.bits.length : Int) = q.count ∧ q.bits.length ≤ 2040)
  else if q.fn = 16 then decide ((q.vals.length : Int) = q.count ∧ q.vals.length ≤ 127) else if q.fn = 23 then decide (q.vals.length ≤ 127) else true
theorem xu {q : TRequest} (h : q.fn = 5) : dk q = decide (((q.bits.length : Nat) : Int) = 1) := by unfold dk; rw [if_pos h]; apply decide_eq_decide.2; omega
theorem xt {q : TRequest} (h : q.fn = 6) : dk q = decide (((q.vals.length : Nat) : Int) = 1) := by unfold dk; rw [if_neg (by omega),if_pos (.inl h)]; apply decide_eq_decide.2; omega
theorem xr {q : TRequest} (h : q.fn = 8) : dk q = decide (((q.vals.length : Nat) : Int) = 1) := by unfold dk; rw [if_neg (by omega),if_pos (.inr h)]; apply decide_eq_decide.2; omega
theorem vw {q : TRequest} (h : q.fn = 15) : dk q = (decide (((q.bits.length : Nat) : Int) = q.count) && decide (((q.bits.length : Nat) : Int) ≤ 2040)) := by
  unfold dk; rw [if_neg (by omega),if_neg (by omega),if_pos h,← Bool.decide_and]; apply decide_eq_decide.2; omega
theorem vv {q : TRequest} (h : q.fn = 16) : dk q = (decide (((q.vals.length : Nat) : Int) = q.count) && decide (((q.vals.length : Nat) : Int) ≤ 127)) := by
  unfold dk; rw [if_neg (by omega),if_neg (by omega),if_neg (by omega),if_pos h,← Bool.decide_and]; apply decide_eq_decide.2; omega
theorem vu {q : TRequest} (h : q.fn = 23) : dk q = decide (((q.vals.length : Nat) : Int) ≤ 127) := by
  unfold dk; rw [if_neg (by omega),if_neg (by omega),if_neg (by omega),if_neg (by omega),if_pos h]; apply decide_eq_decide.2; omega
theorem vt {q : TRequest} (h : q.fn ≠ 5 ∧ q.fn ≠ 6 ∧ q.fn ≠ 8 ∧ q.fn ≠ 15 ∧ q.fn ≠ 16 ∧ q.fn ≠ 23) : dk q = true := by
  unfold dk; rw [if_neg (by omega),if_neg (by omega),if_neg (by omega),if_neg (by omega),if_neg (by omega)]
def my (r : TRequest) : Bool := (((((((!(inS (aV r.fn) 97)) && (!decide (r.at_ = 0))) || ((!(inS (aV r.fn) 99)) && (!decide (r.count = 0)))) || ((!(inS (aV r.fn) 119)) && (!decide (r.wAt = 0)))) || ((!(inS (aV r.fn) 115)) && (!decide (r.sub = 0)))) || ((!(inS (aV r.fn) 98)) && (decide (0 < ((r.bits.length : Nat) : Int))))) || ((!(inS (aV r.fn) 118)) && (decide (0 < ((r.vals.length : Nat) : Int))))) || ((!(inS (aV r.fn) 109)) && ((!decide (r.and_ = 0)) || (!decide (r.or_ = 0))))
def nE (r : TRequest) : Bool := ((((!(aY r.at_)) || (!(aY r.count))) || (!(aY r.wAt))) || (!(aY r.sub))) || (!(dk r))
def bK (q : TRequest) : Int := if (!(bO q.fn)) = true then 15 else if my q = true then 12 else if nE q = true then 12 else 0
theorem jV {q : TRequest} (h : (!(bO q.fn)) = true) : bK q = 15 := by unfold bK; rw [if_pos h]
theorem nh {q : TRequest} (h : (!(bO q.fn)) = false) (h2 : my q = true) : bK q = 12 := by unfold bK; rw [if_neg (by simp [h]),if_pos h2]
theorem ng {q : TRequest} (h : (!(bO q.fn)) = false) (h2 : my q = false) (h3 : nE q = true) : bK q = 12 := by unfold bK; rw [if_neg (by simp [h]),if_neg (by simp [h2]),if_pos h3]
theorem nf {q : TRequest} (h : (!(bO q.fn)) = false) (h2 : my q = false) (h3 : nE q = false) : bK q = 0 := by unfold bK; rw [if_neg (by simp [h]),if_neg (by simp [h2]),if_neg (by simp [h3])]
theorem Bx {n : Int} (h : bO n = true) : inS (aV n) 97 = decide (n ≠ 8 ∧ n ≠ 17) ∧ inS (aV n) 99 = decide (n ≤ 4 ∨ n = 15 ∨ n = 16 ∨ n = 23) ∧ inS (aV n) 119 = decide (n = 23) ∧ inS (aV n) 115 = decide (n = 8) ∧
    inS (aV n) 98 = decide (n = 5 ∨ n = 15) ∧ inS (aV n) 118 = decide (n = 6 ∨ n = 8 ∨ n = 16 ∨ n = 23) ∧ inS (aV n) 109 = decide (n = 22) := by
  rcases hasF_of h with h|h|h|h|h|h|h|h|h|h|h|h <;> subst h <;> decide
theorem u16z {x : UInt16} : x = 0 ↔ x.toNat = 0 := ⟨fun h => by rw [h]; rfl,fun h => UInt16.toNat_inj.1 h⟩
structure ShapeR (q : TRequest) : Prop where
  wa : 0 ≤ q.at_ ∧ q.at_ ≤ 65535
  wc : 0 ≤ q.count ∧ q.count ≤ 65535
  ww : 0 ≤ q.wAt ∧ q.wAt ≤ 65535
  ws : 0 ≤ q.sub ∧ q.sub ≤ 65535
  za : (q.fn = 8 ∨ q.fn = 17) → q.at_ = 0
  zc : ¬ (q.fn ≤ 4 ∨ q.fn = 15 ∨ q.fn = 16 ∨ q.fn = 23) → q.count = 0
  zw : q.fn ≠ 23 → q.wAt = 0
  zs : q.fn ≠ 8 → q.sub = 0
  zm : q.fn ≠ 22 → q.and_.toNat = 0 ∧ q.or_.toNat = 0
  bits : if q.fn = 5 then q.bits.length = 1 else if q.fn = 15 then (q.bits.length : Int) = q.count ∧ q.bits.length ≤ 2040 else q.bits.length = 0
  vals : if q.fn = 6 ∨ q.fn = 8 then q.vals.length = 1 else if q.fn = 16 then (q.vals.length : Int) = q.count ∧ q.vals.length ≤ 127 else if q.fn = 23 then q.vals.length ≤ 127 else q.vals.length = 0
theorem cU {q : TRequest} (h : bO q.fn = true) : bK q = 0 ↔ ShapeR q := by
  obtain ⟨ia,ic,iw,is,ib,iv,im⟩ := Bx h
  have h0 : (!(bO q.fn)) = false := by simp [h]
  have e : bK q = 0 ↔ my q = false ∧ nE q = false := by
    cases ha : my q with
    | true => rw [nh h0 ha]; simp
    | false =>
      cases hb : nE q with
      | true => rw [ng h0 ha hb]; simp
      | false => rw [nf h0 ha hb]; simp
  rw [e]
  unfold my nE
  rw [ia,ic,iw,is,ib,iv,im]
  have hz := @u16z q.and_
  have hz2 := @u16z q.or_
  have hf := hasF_of h
  simp only [Bool.or_eq_false_iff,Bool.and_eq_false_iff,Bool.not_eq_false',decide_eq_true_eq,decide_eq_false_iff_not,aY,hz,hz2]
  constructor
  · rintro ⟨⟨⟨⟨⟨⟨⟨a1,a2⟩,a3⟩,a4⟩,a5⟩,a6⟩,a7⟩,⟨⟨⟨b1,b2⟩,b3⟩,b4⟩,b5⟩
    unfold dk at b5
    refine ⟨b1,b2,b3,b4,by omega,by omega,by omega,by omega,by omega, ?_, ?_⟩
    · repeat' split
      all_goals (repeat' split at b5) <;> first|omega|(simp only [decide_eq_true_eq] at b5; omega)
    · repeat' split
      all_goals (repeat' split at b5) <;> first|omega|(simp only [decide_eq_true_eq] at b5; omega)
  · rintro ⟨wa,wc,ww,ws,za,zc,zw,zs,zm,hb,hv⟩
    refine ⟨⟨⟨⟨⟨⟨⟨by omega,by omega⟩,by omega⟩,by omega⟩, ?_⟩, ?_⟩,by omega⟩,⟨⟨⟨wa,wc⟩,ww⟩,ws⟩, ?_⟩
    · repeat' split at hb
      all_goals omega
    · repeat' split at hv
      all_goals omega
    · unfold dk
      repeat' split
      all_goals first|rfl|(apply decide_eq_true; (repeat' split at hb) <;> (repeat' split at hv) <;> omega)
theorem sP {q : TRequest} (h : bO q.fn = true) (h2 : ¬ ShapeR q) : bK q = 12 := by
  have h0 : (!(bO q.fn)) = false := by simp [h]
  cases ha : my q with
  | true => exact nh h0 ha
  | false =>
    cases hb : nE q with
    | true => exact ng h0 ha hb
    | false => exact absurd ((cU h).1 (nf h0 ha hb)) h2
theorem cR {q : TRequest} (h : bK q = 0) : bO q.fn = true ∧ ShapeR q := by
  cases hf : bO q.fn with
  | true => exact ⟨rfl,(cU hf).1 h⟩
  | false => rw [jV (by simp [hf])] at h; cases h
def cY (x : List UInt8) : List UInt8 := UInt8.ofNat x.length :: x
def fR (q : TRequest) : List UInt8 :=
  if q.fn = 1 ∨ q.fn = 2 ∨ q.fn = 3 ∨ q.fn = 4 then aJ q.at_ ++ aJ q.count
  else if q.fn = 5 then aJ q.at_ ++ aJ (if q.bits.getD 0 false = true then 65280 else 0)
  else if q.fn = 6 then aJ q.at_ ++ aJ (((q.vals.getD 0 0).toNat : Nat) : Int)
  else if q.fn = 8 then aJ q.sub ++ aJ (((q.vals.getD 0 0).toNat : Nat) : Int)
  else if q.fn = 15 then aJ q.at_ ++ (aJ q.count ++ cY (packL q.bits))
  else if q.fn = 16 then aJ q.at_ ++ (aJ q.count ++ cY (bW q.vals))
  else if q.fn = 22 then aJ q.at_ ++ (aJ ((q.and_.toNat : Nat) : Int) ++ aJ ((q.or_.toNat : Nat) : Int))
  else if q.fn = 23 then aJ q.at_ ++ (aJ q.count ++ (aJ q.wAt ++ (aJ ((q.vals.length : Nat) : Int) ++ cY (bW q.vals))))
  else []
def cx (q : TRequest) : List UInt8 := bz q.fn :: fR q
theorem qR {q : TRequest} (h : q.fn = 1 ∨ q.fn = 2 ∨ q.fn = 3 ∨ q.fn = 4) : cx q = bz q.fn :: (aJ q.at_ ++ aJ q.count) := by
  unfold cx fR; rw [if_pos h]
theorem m0 {q : TRequest} (h : q.fn = 5) {e : Bool} (he : q.bits[0]? = some e) : cx q = bz q.fn :: (aJ q.at_ ++ aJ (if e = true then 65280 else 0)) := by
  unfold cx fR; rw [if_neg (by omega),if_pos h,List.getD_eq_getElem?_getD,he]; rfl
theorem qQ {q : TRequest} (h : q.fn = 6) {e : UInt16} (he : q.vals[0]? = some e) : cx q = bz q.fn :: (aJ q.at_ ++ aJ ((e.toNat : Nat) : Int)) := by
  unfold cx fR; rw [if_neg (by omega),if_neg (by omega),if_pos h,List.getD_eq_getElem?_getD,he]; rfl
theorem qP {q : TRequest} (h : q.fn = 8) {e : UInt16} (he : q.vals[0]? = some e) : cx q = bz q.fn :: (aJ q.sub ++ aJ ((e.toNat : Nat) : Int)) := by
  unfold cx fR; rw [if_neg (by omega),if_neg (by omega),if_neg (by omega),if_pos h,List.getD_eq_getElem?_getD,he]; rfl
theorem pu {q : TRequest} (h : q.fn = 15) : cx q = bz q.fn :: (aJ q.at_ ++ (aJ q.count ++ cY (packL q.bits))) := by
  unfold cx fR; rw [if_neg (by omega),if_neg (by omega),if_neg (by omega),if_neg (by omega),if_pos h]
theorem pt {q : TRequest} (h : q.fn = 16) : cx q = bz q.fn :: (aJ q.at_ ++ (aJ q.count ++ cY (bW q.vals))) := by
  unfold cx fR; rw [if_neg (by omega),if_neg (by omega),if_neg (by omega),if_neg (by omega),if_neg (by omega),if_pos h]
theorem pr {q : TRequest} (h : q.fn = 22) : cx q = bz q.fn :: (aJ q.at_ ++ (aJ ((q.and_.toNat : Nat) : Int) ++ aJ ((q.or_.toNat : Nat) : Int))) := by
  unfold cx fR; rw [if_neg (by omega),if_neg (by omega),if_neg (by omega),if_neg (by omega),if_neg (by omega),if_neg (by omega),if_pos h]
theorem pq {q : TRequest} (h : q.fn = 23) : cx q = bz q.fn :: (aJ q.at_ ++ (aJ q.count ++ (aJ q.wAt ++ (aJ ((q.vals.length : Nat) : Int) ++ cY (bW q.vals))))) := by
  unfold cx fR; rw [if_neg (by omega),if_neg (by omega),if_neg (by omega),if_neg (by omega),if_neg (by omega),if_neg (by omega),if_neg (by omega),if_pos h]
theorem pp {q : TRequest} (h : ¬ (q.fn = 1 ∨ q.fn = 2 ∨ q.fn = 3 ∨ q.fn = 4) ∧ q.fn ≠ 5 ∧ q.fn ≠ 6 ∧ q.fn ≠ 8 ∧ q.fn ≠ 15 ∧ q.fn ≠ 16 ∧ q.fn ≠ 22 ∧ q.fn ≠ 23) : cx q = [bz q.fn] := by
  unfold cx fR; rw [if_neg (by omega),if_neg (by omega),if_neg (by omega),if_neg (by omega),if_neg (by omega),if_neg (by omega),if_neg (by omega),if_neg (by omega)]
@[simp] theorem sN (x : List UInt8) : (cY x).length = x.length + 1 := by simp [cY]
theorem iL {q : TRequest} (h : ShapeR q) : q.bits.length ≤ 2040 ∧ q.vals.length ≤ 127 := by
  obtain ⟨wa,wc,ww,ws,za,zc,zw,zs,zm,hb,hv⟩ := h
  constructor
  · repeat' split at hb
    all_goals omega
  · repeat' split at hv
    all_goals omega
theorem gz (n : Int)  :
    T Tryz.prog 27 [pI n] 0 [] (Ret (pB (bO n)) 0 []) := by
 refine bn aF (n := 33) (rs := [.tmp 2]) Tryz.func27 Z Z Z Z (nb Z) ?_
 intro c N hk
 refine sr (ae N Z Z (sr (xa N 31 [.o 3,.b 2 [.o 2],.o 1,.b 2 [.o 2],.o 1,.b 2 [.o 2],.o 1,.b 2 [.o 2],.o 1,.b 2 [.o 2],.o 1,.b 2 [.o 2],.o 1,.b 2 [.o 2],.o 1] [] [(2,pB ((((((((decide (1 ≤ n)) && (decide (n ≤ 6))) || (decide (n = 8))) || (decide (n = 15))) || (decide (n = 16))) || (decide (n = 17))) || (decide (n = 22))) || (decide (n = 23))))] 0 [] (re (aq (s := 2) Z (congrArg pB (show ((((((((decide (1 ≤ n)) && (decide (n ≤ 6))) || (decide (n = 8))) || (decide (n = 15))) || (decide (n = 16))) || (decide (n = 17))) || (decide (n = 22))) || (decide (n = 23))) = (bO n) by unfold bO; apply Bool.eq_iff_iff.2; simp only [Bool.and_eq_true,Bool.or_eq_true,decide_eq_true_eq]; try omega)) ?_)))))
 exact w_ret fp
theorem w_burgageref3_word (n : Int)  :
    T Tryz.prog 34 [pI n] 0 [] (Ret (pB (aY n)) 0 []) := by
 refine bn aF (n := 9) (rs := [.tmp 2]) Tryz.func34 Z Z Z Z (nb Z) ?_
 intro c N hk
 refine sr (ae N Z Z (sr (xa N 7 [.o 3,.b 2 [.o 2],.o 1] [] [(2,pB ((decide (0 ≤ n)) && (decide (n ≤ 65535))))] 0 [] (re (aq (s := 2) Z (congrArg pB (show ((decide (0 ≤ n)) && (decide (n ≤ 65535))) = (aY n) by unfold aY; apply Bool.eq_iff_iff.2; simp only [Bool.and_eq_true,Bool.or_eq_true,decide_eq_true_eq]; try omega)) ?_)))))
 exact w_ret fp
theorem iU (n : Int)  :
    T Tryz.prog 67 [pI n] 0 [] (Ret (pT (aV n)) 0 []) := by
 refine bn aF (n := 23) (rs := [.tmp 2]) Tryz.func67 Z Z Z Z (nb Z) ?_
 intro c N hk
 refine sr (ae N Z Z (an (sr (qm N Z Z (re (aP (an (sr ?_))))))))
 refine xp N 2 [.o 2] [] [(4,pB (decide (n = 1)))] (re (av Z (fun c1 => ?_) (fun c1 => ?_)))
 ·have c1_ := c1
  try simp only [sB] at c1
  refine aw (ak (av Z (fun _ => ?_) (fun e => absurd (e.symm.trans c1_) (by decide))))
  exact sr (ae N Z Z (aq (s := 2) Z (congrArg (fun z : List UInt8 => pT z) (show ([97,99] : List UInt8) = (aV n) by (simp [aV, *]; done))) (w_ret (am (af fp)))))
 have c1_ := c1
 try simp only [sB] at c1
 refine sr (qo N Z (bF Z Z ?_))
 refine ae N Z Z (av Z (fun c2 => ?_) (fun c2 => ?_))
 ·have c2_ := c2
  try simp only [sB] at c2
  refine aw (ak (av Z (fun _ => ?_) (fun e => absurd (e.symm.trans c2_) (by decide))))
  exact sr (ae N Z Z (aq (s := 2) Z (congrArg (fun z : List UInt8 => pT z) (show ([97,99] : List UInt8) = (aV n) by (simp [aV, *]; done))) (w_ret (am (af fp)))))
 have c2_ := c2
 try simp only [sB] at c2
 refine sr (qo N Z (bF Z Z ?_))
 refine ae N Z Z (av Z (fun c3 => ?_) (fun c3 => ?_))
 ·have c3_ := c3
  try simp only [sB] at c3
  refine aw (ak (av Z (fun _ => ?_) (fun e => absurd (e.symm.trans c3_) (by decide))))
  exact sr (ae N Z Z (aq (s := 2) Z (congrArg (fun z : List UInt8 => pT z) (show ([97,99] : List UInt8) = (aV n) by (simp [aV, *]; done))) (w_ret (am (af fp)))))
 have c3_ := c3
 try simp only [sB] at c3
 refine bk (qo N Z (bF Z Z ?_))
 refine ae N Z Z (av Z (fun c4 => ?_) (fun c4 => ?_))
 ·try simp only [sB] at c4
  exact sr (ae N Z Z (aq (s := 2) Z (congrArg (fun z : List UInt8 => pT z) (show ([97,99] : List UInt8) = (aV n) by (simp [aV, *]; done))) (w_ret (am (af fp)))))
 try simp only [sB] at c4
 refine sr (xp N 2 [.o 2] [] [(9,pB (decide (n = 5)))] (re (av Z (fun c5 => ?_) (fun c5 => ?_))))
 ·try simp only [sB] at c5
  exact sr (ae N Z Z (aq (s := 2) Z (congrArg (fun z : List UInt8 => pT z) (show ([97,98] : List UInt8) = (aV n) by (simp [aV, *]; done))) (w_ret (am (af fp)))))
 try simp only [sB] at c5
 refine sr (xp N 2 [.o 2] [] [(11,pB (decide (n = 6)))] (re (av Z (fun c6 => ?_) (fun c6 => ?_))))
 ·try simp only [sB] at c6
  exact sr (ae N Z Z (aq (s := 2) Z (congrArg (fun z : List UInt8 => pT z) (show ([97,118] : List UInt8) = (aV n) by (simp [aV, *]; done))) (w_ret (am (af fp)))))
 try simp only [sB] at c6
 refine sr (xp N 2 [.o 2] [] [(13,pB (decide (n = 8)))] (re (av Z (fun c7 => ?_) (fun c7 => ?_))))
 ·try simp only [sB] at c7
  exact sr (ae N Z Z (aq (s := 2) Z (congrArg (fun z : List UInt8 => pT z) (show ([115,118] : List UInt8) = (aV n) by (simp [aV, *]; done))) (w_ret (am (af fp)))))
 try simp only [sB] at c7
 refine sr (xp N 2 [.o 2] [] [(15,pB (decide (n = 15)))] (re (av Z (fun c8 => ?_) (fun c8 => ?_))))
 ·try simp only [sB] at c8
  exact sr (ae N Z Z (aq (s := 2) Z (congrArg (fun z : List UInt8 => pT z) (show ([97,99,98] : List UInt8) = (aV n) by (simp [aV, *]; done))) (w_ret (am (af fp)))))
 try simp only [sB] at c8
 refine sr (xp N 2 [.o 2] [] [(17,pB (decide (n = 16)))] (re (av Z (fun c9 => ?_) (fun c9 => ?_))))
 ·try simp only [sB] at c9
  exact sr (ae N Z Z (aq (s := 2) Z (congrArg (fun z : List UInt8 => pT z) (show ([97,99,118] : List UInt8) = (aV n) by (simp [aV, *]; done))) (w_ret (am (af fp)))))
 try simp only [sB] at c9
 refine sr (xp N 2 [.o 2] [] [(19,pB (decide (n = 22)))] (re (av Z (fun c10 => ?_) (fun c10 => ?_))))
 ·try simp only [sB] at c10
  exact sr (ae N Z Z (aq (s := 2) Z (congrArg (fun z : List UInt8 => pT z) (show ([97,109] : List UInt8) = (aV n) by (simp [aV, *]; done))) (w_ret (am (af fp)))))
 try simp only [sB] at c10
 refine sr (xp N 2 [.o 2] [] [(21,pB (decide (n = 23)))] (re (av Z (fun c11 => ?_) (fun c11 => ?_))))
 ·try simp only [sB] at c11
  exact sr (ae N Z Z (aq (s := 2) Z (congrArg (fun z : List UInt8 => pT z) (show ([97,99,119,118] : List UInt8) = (aV n) by (simp [aV, *]; done))) (w_ret (am (af fp)))))
 try simp only [sB] at c11
 exact aw (aG (ak (sr (ae N Z Z (aq (s := 2) Z (congrArg (fun z : List UInt8 => pT z) (show ([] : List UInt8) = (aV n) by (simp [aV, *]; done))) (w_ret fp))))))
theorem cp (s : List UInt8) (ch : UInt8) (hs : s.length ≤ 140737488351232) :
    T Tryz.prog 33 [pT s,p8 ch] 0 [] (Ret (pB (inS s ch)) 0 []) := by
 refine bn aF (n := 17) (rs := [.tmp 4]) Tryz.func33 Z Z Z Z (nb Z) ?_
 intro c N hk
 refine sr (ae N Z Z (an (sr (ae N Z Z (aP (gu (fun (i : Nat) => i ≤ s.length ∧ ∀ x ∈ s.take i,x ≠ ch) (fun (i : Nat) => [(0,pT s),(1,p8 ch),(5,pN i)]) 0 (fun (i : Nat) => []) (fun (i : Nat) => s.length - i) (0) ?_ ⟨[],Z,⟨⟨_,Z,Z,Z⟩,⟨_,Z,Z,Z⟩,⟨_,Z,Z,Z⟩,trivial⟩,trivial,by rw [hk]; decide⟩ ?_))))))
 · exact ⟨Nat.zero_le _,by simp⟩
 ·intro i hI
  obtain ⟨hi,hn⟩ := hI
  refine an (sr (qm N Z Z (qm N Z Z (qo N Z (Bj (l := s) mC Z Z ?_)))))
  refine qo N Z (cZ Z Z ?_)
  refine re (av Z (fun c1 => ?_) (fun c1 => ?_))
  ·try simp only [sB] at c1
   refine aw (ak (an (aP (sr (qm N Z Z (qm N Z Z ?_))))))
   obtain ⟨e1,he1⟩ := bl s (i := i) (by omega)
   refine qo N Z (Bk (q := i) (b := e1) (s := s) mC Z Z (by omega) Z he1 ?_)
   refine qm N Z Z (qo N Z (rD (a := e1) (b := ch) Z Z ?_))
   refine re (av Z (fun c2 => ?_) (fun c2 => ?_))
   ·try simp only [sB] at c2
    exact sr (ae N Z Z (aq (s := 4) Z (congrArg pB (show true = (inS s ch) by unfold inS; exact (decide_eq_true (by rw [← (by simpa using c2 : e1 = ch)]; exact List.mem_of_getElem? he1)).symm)) (w_ret (am (af (af (am (af fp))))))))
   try simp only [sB] at c2
   refine aw (aG (ak (bk (qm N Z Z (qo N Z (cm (a := i) (b := 1) Z Z (by omega) (by omega) (by omega) ?_))))))
   refine ae N Z Z (⟨(i + 1), ?_, ?_,⟨[],Z,⟨⟨_,Z,Z,Z⟩,⟨_,Z,Z,Z⟩,⟨_,Z,Z,Z⟩,trivial⟩,trivial,by rw [hk]; decide⟩⟩)
   ·refine ⟨by omega,fun x hx => ?_⟩
    rw [List.take_add_one,he1] at hx
    rcases List.mem_append.1 hx with h|h
    · exact hn x h
    · simp at h; subst h; simpa using c2
   · omega
  try simp only [sB] at c1
  have hn2 : ∀ x ∈ s,x ≠ ch := by rw [List.take_of_length_le (by omega)] at hn; exact hn
  exact cG (aL (aL (bq (ak (sr (ae N Z Z (aq (s := 4) Z (congrArg pB (show false = (inS s ch) by unfold inS; exact (decide_eq_false (fun h => hn2 _ h rfl)).symm)) (w_ret fp))))))))
theorem w_burgageref3_lists (r : TRequest) (hb : r.bits.length ≤ 140737488351232) (hv : r.vals.length ≤ 140737488351232) :
    T Tryz.prog 75 [PV.f (bx r)] 0 [] (Ret (pB (dk r)) 0 []) := by
 refine bn aF (n := 46) (rs := [.tmp 2]) Tryz.func75 Z Z Z Z (nb Z) ?_
 intro c N hk
 refine sr (qo N Z (cu Z Z ?_))
 refine qa N Z Z (aE [(1,PV.ptr 0 0)] [(0,.obj (cd r))] 1 ⟨Z,trivial⟩ Z Z (re (an (cK N (xq 8 [.o 2,.c (pN r.bits.length),.o 2,.c (pN r.vals.length),.o 2] [cC ar r.bits,cC aj r.vals] ?_ (hc := ⟨lenC_ok _ _,lenC_ok _ _,trivial⟩))))))
 refine xe [(1,PV.ptr 0 0),(3,pN r.bits.length),(4,pN r.vals.length)] (re (an (sr (xp N 2 [.o 2] [] [(12,pI r.fn)] (re ?_)))))
 refine aP (sr (xp N 2 [.o 2] [] [(13,pB (decide (r.fn = 5)))] (re (av Z (fun c1 => ?_) (fun c1 => ?_)))))
 ·have c1_ := c1
  try simp only [sB] at c1
  refine sr (xp N 3 [.o 3] [] [(2,pB (decide (((r.bits.length : Nat) : Int) = 1)))] (re (aq (s := 2) Z (congrArg pB (show (decide (((r.bits.length : Nat) : Int) = 1)) = (dk r) by exact (xu (by assumption)).symm)) (w_ret (am ?_)))))
  exact af fp
 have c1_ := c1
 try simp only [sB] at c1
 let Y : aI := [(2,pB (decide (((r.vals.length : Nat) : Int) = 1)))]
 refine an (sr (xp N 2 [.o 2] [] [(17,pB (decide (r.fn = 6)))] (re (av Z (fun c2 => ?_) (fun c2 => ?_)))))
 ·have c2_ := c2
  try simp only [sB] at c2
  refine aw (ak (av Z (fun _ => ?_) (fun e => absurd (e.symm.trans c2_) (by decide))))
  refine sr (xp N 3 [.o 3] [] Y (re (aq (s := 2) Z (congrArg pB (show (decide (((r.vals.length : Nat) : Int) = 1)) = (dk r) by exact (xt (by assumption)).symm)) (w_ret (am ?_)))))
  exact af fp
 have c2_ := c2
 try simp only [sB] at c2
 refine bk (qo N Z (bF Z Z ?_))
 refine ae N Z Z (av Z (fun c3 => ?_) (fun c3 => ?_))
 ·have c3_ := c3
  try simp only [sB] at c3
  refine sr (xp N 3 [.o 3] [] Y (re (aq (s := 2) Z (congrArg pB (show (decide (((r.vals.length : Nat) : Int) = 1)) = (dk r) by exact (xr (by assumption)).symm)) (w_ret (am ?_)))))
  exact af fp
 have c3_ := c3
 try simp only [sB] at c3
 refine sr (qo N Z (bF Z Z ?_))
 refine ae N Z Z (av Z (fun c4 => ?_) (fun c4 => ?_))
 ·have c4_ := c4
  try simp only [sB] at c4
  refine sr (xp N 9 [.o 5,.b 2 [.o 2],.o 1] [] [(2,pB ((decide (((r.bits.length : Nat) : Int) = r.count)) && (decide (((r.bits.length : Nat) : Int) ≤ 2040))))] (re (aq (s := 2) Z (congrArg pB (show ((decide (((r.bits.length : Nat) : Int) = r.count)) && (decide (((r.bits.length : Nat) : Int) ≤ 2040))) = (dk r) by exact (vw (by assumption)).symm)) (w_ret (am ?_)))))
  exact af fp
 have c4_ := c4
 try simp only [sB] at c4
 refine sr (qo N Z (bF Z Z ?_))
 refine ae N Z Z (av Z (fun c5 => ?_) (fun c5 => ?_))
 ·have c5_ := c5
  try simp only [sB] at c5
  refine sr (xp N 9 [.o 5,.b 2 [.o 2],.o 1] [] [(2,pB ((decide (((r.vals.length : Nat) : Int) = r.count)) && (decide (((r.vals.length : Nat) : Int) ≤ 127))))] (re (aq (s := 2) Z (congrArg pB (show ((decide (((r.vals.length : Nat) : Int) = r.count)) && (decide (((r.vals.length : Nat) : Int) ≤ 127))) = (dk r) by exact (vv (by assumption)).symm)) (w_ret (am ?_)))))
  exact af fp
 have c5_ := c5
 try simp only [sB] at c5
 refine sr (qo N Z (bF Z Z ?_))
 refine ae N Z Z (av Z (fun c6 => ?_) (fun c6 => ?_))
 ·have c6_ := c6
  try simp only [sB] at c6
  refine sr (qm N Z Z (qo N Z (x9 Z Z ?_)))
  exact ae N Z Z (aq (s := 2) Z (congrArg pB (show (decide (((r.vals.length : Nat) : Int) ≤ 127)) = (dk r) by exact (vu (by assumption)).symm)) (w_ret (am (af fp))))
 have c6_ := c6
 try simp only [sB] at c6
 exact aw (aG (ak (sr (ae N Z Z (aq (s := 2) Z (congrArg pB (show true = (dk r) by exact (vt (by omega)).symm)) (w_ret fp))))))
theorem lG (r : TRequest) (hb : r.bits.length ≤ 140737488351232) (hv : r.vals.length ≤ 140737488351232) :
    T Tryz.prog 56 [PV.f (bx r)] 0 [] (Ret (pI (bK r)) 0 []) := by
 refine bn aF (n := 113) (rs := [.tmp 2]) Tryz.func56 Z Z Z Z (nb Z) ?_
 intro c N hk
 refine sr (qo N Z (cu Z Z ?_))
 let Y0 : Nat × PV := (1,PV.ptr 0 0)
 refine qa N Z Z (aE [Y0] [(0,.obj (cd r))] 1 ⟨Z,trivial⟩ Z Z (re (an (sr (xp N 2 [.o 2] [] [(5,pI r.fn)] ?_)))))
 refine qo N Z (aO Z Z Z (gz r.fn) Z ?_)
 refine qo N Z (eO Z ?_)
 refine re (av Z (fun c1 => ?_) (fun c1 => ?_))
 ·have c1_ := c1
  try simp only [sB] at c1
  exact sr (ae N Z Z (aq (s := 2) Z (congrArg pI (show 15 = (bK r) by exact (jV c1_).symm)) (w_ret (af fp))))
 have c1_ := c1
 try simp only [sB] at c1
 refine aw (ak (sr (xp N 2 [.o 2] [] [(9,pI r.fn)] (qo N Z (aO Z Z Z (iU r.fn) Z ?_)))))
 refine ae N Z Z (an (sr (qm N Z Z (qo N Z (aO Z Z Z (cp (aV r.fn) 97 (by have := fe r.fn; omega)) Z ?_)))))
 let Y1 : Nat × PV := (3,pT (aV r.fn))
 let Y2 : Nat × PV := (19,pB ((!(inS (aV r.fn) 97)) && (!decide (r.at_ = 0))))
 refine xp N 7 [.o 2,.b 3 [.o 3],.o 1] [] [Y2] (cy 9 [Y0,Y1,(28,pB (((!(inS (aV r.fn) 97)) && (!decide (r.at_ = 0))) || ((!(inS (aV r.fn) 99)) && (!decide (r.count = 0)))))] ?_ ?_)
 ·refine bS aF N Z Z Z (fun g2 => ?_) (fun g2 => ?_)
  ·have g2' := g2
   try simp only [sB] at g2'
   refine qm N Z Z (ry N Z Z Z g2 (qo N Z (aO Z Z Z (cp (aV r.fn) 99 (by have := fe r.fn; omega)) Z ?_)))
   refine ry N Z Z Z g2 (qo N Z (eO Z ?_))
   refine ry N Z Z Z g2 (qm N Z Z (cy 4 [Y0,Y1,Y2,(27,pB ((!(inS (aV r.fn) 99)) && (!decide (r.count = 0))))] ?_ ?_))
   ·refine bS aF N Z Z Z (fun g3 => ?_) (fun g3 => ?_)
    ·have g3' := g3
     try simp only [sB] at g3'
     refine qo N Z (aX bc Z Z aD (by decide) Z ?_)
     refine ry N Z Z Z g3 (qo N Z (bp aD Z Z Z Z Z ?_))
     refine ry N Z Z Z g3 (qo N Z (el Z Z ?_))
     refine ry N Z Z Z g2 (qo N Z (bg Z g3 Z ?_))
     refine bh (s := 27) Z (dI g3) ?_
     exact bC ⟨⟨Z,Z,Z,Z,trivial⟩,Z,Z⟩
    ·have g3' := g3
     try simp only [sB] at g3'
     refine rn N Z Z Z g3 (rn N Z Z Z g3 (ry N Z Z Z g2 (qo N Z (bd Z g3 Z ?_))))
     refine bh (s := 27) (y := pB ((!(inS (aV r.fn) 99)) && (!decide (r.count = 0)))) Z (dJ _ g3) ?_
     exact bC ⟨⟨Z,Z,Z,Z,trivial⟩,Z,Z⟩
   ·refine qo N Z (bd Z g2 Z ?_)
    refine bh (s := 28) Z (dA g2) ?_
    exact bC ⟨⟨Z,Z,Z,trivial⟩,Z,Z⟩
  ·have g2' := g2
   try simp only [sB] at g2'
   refine rn N Z Z Z g2 (rn N Z Z Z g2 (rn N Z Z Z g2 (ru N Z Z Z (ru N Z Z Z (ru N Z Z Z (rn N Z Z Z g2 (qo N Z (bg Z g2 Z ?_))))))))
   refine bh (s := 28) (y := pB (((!(inS (aV r.fn) 97)) && (!decide (r.at_ = 0))) || ((!(inS (aV r.fn) 99)) && (!decide (r.count = 0))))) Z (dz _ g2) ?_
   exact bC ⟨⟨Z,Z,Z,trivial⟩,Z,Z⟩
 ·refine qm N Z Z (cy 9 [Y0,Y1,(38,pB ((((!(inS (aV r.fn) 97)) && (!decide (r.at_ = 0))) || ((!(inS (aV r.fn) 99)) && (!decide (r.count = 0)))) || ((!(inS (aV r.fn) 119)) && (!decide (r.wAt = 0)))))] ?_ ?_)
  ·refine bS aF N Z Z Z (fun g4 => ?_) (fun g4 => ?_)
   ·have g4' := g4
    try simp only [sB] at g4'
    refine qm N Z Z (ry N Z Z Z g4 (qo N Z (aO Z Z Z (cp (aV r.fn) 119 (by have := fe r.fn; omega)) Z ?_)))
    refine ry N Z Z Z g4 (qo N Z (eO Z ?_))
    refine ry N Z Z Z g4 (qm N Z Z (cy 4 [Y0,Y1,(29,pB (((!(inS (aV r.fn) 97)) && (!decide (r.at_ = 0))) || ((!(inS (aV r.fn) 99)) && (!decide (r.count = 0))))),(37,pB ((!(inS (aV r.fn) 119)) && (!decide (r.wAt = 0))))] ?_ ?_))
    ·refine bS aF N Z Z Z (fun g5 => ?_) (fun g5 => ?_)
     ·have g5' := g5
      try simp only [sB] at g5'
      refine qo N Z (aX bc Z Z aD (by decide) Z ?_)
      refine ry N Z Z Z g5 (qo N Z (bp aD Z Z Z Z Z ?_))
      refine ry N Z Z Z g5 (qo N Z (el Z Z ?_))
      refine ry N Z Z Z g4 (qo N Z (bg Z g5 Z ?_))
      refine bh (s := 37) Z (dI g5) ?_
      exact bC ⟨⟨Z,Z,Z,Z,trivial⟩,Z,Z⟩
     ·have g5' := g5
      try simp only [sB] at g5'
      refine rn N Z Z Z g5 (rn N Z Z Z g5 (ry N Z Z Z g4 (qo N Z (bd Z g5 Z ?_))))
      refine bh (s := 37) (y := pB ((!(inS (aV r.fn) 119)) && (!decide (r.wAt = 0)))) Z (dJ _ g5) ?_
      exact bC ⟨⟨Z,Z,Z,Z,trivial⟩,Z,Z⟩
    ·refine qo N Z (bd Z g4 Z ?_)
     refine bh (s := 38) Z (dA g4) ?_
     exact bC ⟨⟨Z,Z,Z,trivial⟩,Z,Z⟩
   ·have g4' := g4
    try simp only [sB] at g4'
    refine rn N Z Z Z g4 (rn N Z Z Z g4 (rn N Z Z Z g4 (ru N Z Z Z (ru N Z Z Z (ru N Z Z Z (rn N Z Z Z g4 (qo N Z (bg Z g4 Z ?_))))))))
    refine bh (s := 38) (y := pB ((((!(inS (aV r.fn) 97)) && (!decide (r.at_ = 0))) || ((!(inS (aV r.fn) 99)) && (!decide (r.count = 0)))) || ((!(inS (aV r.fn) 119)) && (!decide (r.wAt = 0))))) Z (dz _ g4) ?_
    exact bC ⟨⟨Z,Z,Z,trivial⟩,Z,Z⟩
  ·refine qm N Z Z (cy 9 [Y0,Y1,(48,pB (((((!(inS (aV r.fn) 97)) && (!decide (r.at_ = 0))) || ((!(inS (aV r.fn) 99)) && (!decide (r.count = 0)))) || ((!(inS (aV r.fn) 119)) && (!decide (r.wAt = 0)))) || ((!(inS (aV r.fn) 115)) && (!decide (r.sub = 0)))))] ?_ ?_)
   ·refine bS aF N Z Z Z (fun g6 => ?_) (fun g6 => ?_)
    ·have g6' := g6
     try simp only [sB] at g6'
     refine qm N Z Z (ry N Z Z Z g6 (qo N Z (aO Z Z Z (cp (aV r.fn) 115 (by have := fe r.fn; omega)) Z ?_)))
     refine ry N Z Z Z g6 (qo N Z (eO Z ?_))
     refine ry N Z Z Z g6 (qm N Z Z (cy 4 [Y0,Y1,(39,pB ((((!(inS (aV r.fn) 97)) && (!decide (r.at_ = 0))) || ((!(inS (aV r.fn) 99)) && (!decide (r.count = 0)))) || ((!(inS (aV r.fn) 119)) && (!decide (r.wAt = 0))))),(47,pB ((!(inS (aV r.fn) 115)) && (!decide (r.sub = 0))))] ?_ ?_))
     ·refine bS aF N Z Z Z (fun g7 => ?_) (fun g7 => ?_)
      ·have g7' := g7
       try simp only [sB] at g7'
       refine qo N Z (aX bc Z Z aD (by decide) Z ?_)
       refine ry N Z Z Z g7 (qo N Z (bp aD Z Z Z Z Z ?_))
       refine ry N Z Z Z g7 (qo N Z (el Z Z ?_))
       refine ry N Z Z Z g6 (qo N Z (bg Z g7 Z ?_))
       refine bh (s := 47) Z (dI g7) ?_
       exact bC ⟨⟨Z,Z,Z,Z,trivial⟩,Z,Z⟩
      ·have g7' := g7
       try simp only [sB] at g7'
       refine rn N Z Z Z g7 (rn N Z Z Z g7 (ry N Z Z Z g6 (qo N Z (bd Z g7 Z ?_))))
       refine bh (s := 47) (y := pB ((!(inS (aV r.fn) 115)) && (!decide (r.sub = 0)))) Z (dJ _ g7) ?_
       exact bC ⟨⟨Z,Z,Z,Z,trivial⟩,Z,Z⟩
     ·refine qo N Z (bd Z g6 Z ?_)
      refine bh (s := 48) Z (dA g6) ?_
      exact bC ⟨⟨Z,Z,Z,trivial⟩,Z,Z⟩
    ·have g6' := g6
     try simp only [sB] at g6'
     refine rn N Z Z Z g6 (rn N Z Z Z g6 (rn N Z Z Z g6 (ru N Z Z Z (ru N Z Z Z (ru N Z Z Z (rn N Z Z Z g6 (qo N Z (bg Z g6 Z ?_))))))))
     refine bh (s := 48) (y := pB (((((!(inS (aV r.fn) 97)) && (!decide (r.at_ = 0))) || ((!(inS (aV r.fn) 99)) && (!decide (r.count = 0)))) || ((!(inS (aV r.fn) 119)) && (!decide (r.wAt = 0)))) || ((!(inS (aV r.fn) 115)) && (!decide (r.sub = 0))))) Z (dz _ g6) ?_
     exact bC ⟨⟨Z,Z,Z,trivial⟩,Z,Z⟩
   ·refine qm N Z Z (cy 10 [Y0,Y1,(59,pB ((((((!(inS (aV r.fn) 97)) && (!decide (r.at_ = 0))) || ((!(inS (aV r.fn) 99)) && (!decide (r.count = 0)))) || ((!(inS (aV r.fn) 119)) && (!decide (r.wAt = 0)))) || ((!(inS (aV r.fn) 115)) && (!decide (r.sub = 0)))) || ((!(inS (aV r.fn) 98)) && (decide (0 < ((r.bits.length : Nat) : Int))))))] ?_ ?_)
    ·refine bS aF N Z Z Z (fun g8 => ?_) (fun g8 => ?_)
     ·have g8' := g8
      try simp only [sB] at g8'
      refine qm N Z Z (ry N Z Z Z g8 (qo N Z (aO Z Z Z (cp (aV r.fn) 98 (by have := fe r.fn; omega)) Z ?_)))
      refine ry N Z Z Z g8 (qo N Z (eO Z ?_))
      refine ry N Z Z Z g8 (qm N Z Z (cy 5 [Y0,Y1,(49,pB (((((!(inS (aV r.fn) 97)) && (!decide (r.at_ = 0))) || ((!(inS (aV r.fn) 99)) && (!decide (r.count = 0)))) || ((!(inS (aV r.fn) 119)) && (!decide (r.wAt = 0)))) || ((!(inS (aV r.fn) 115)) && (!decide (r.sub = 0))))),(58,pB ((!(inS (aV r.fn) 98)) && (decide (0 < ((r.bits.length : Nat) : Int)))))] ?_ ?_))
      ·refine bS aF N Z Z Z (fun g9 => ?_) (fun g9 => ?_)
       ·have g9' := g9
        try simp only [sB] at g9'
        refine qo N Z (aX bc Z Z bT (by decide) Z ?_)
        refine ry N Z Z Z g9 (qo N Z (bp bT Z Z Z Z Z ?_))
        refine ry N Z Z Z g9 (qo N Z (ca (l := r.bits) bT Z (cf (f := ar) Z) ?_))
        refine ry N Z Z Z g9 (qo N Z (gM Z Z ?_))
        refine ry N Z Z Z g8 (qo N Z (bg Z g9 Z ?_))
        refine bh (s := 58) Z (dI g9) ?_
        exact bC ⟨⟨Z,Z,Z,Z,trivial⟩,Z,Z⟩
       ·have g9' := g9
        try simp only [sB] at g9'
        refine rn N Z Z Z g9 (rn N Z Z Z g9 (rn N Z Z Z g9 (ry N Z Z Z g8 (qo N Z (bd Z g9 Z ?_)))))
        refine bh (s := 58) (y := pB ((!(inS (aV r.fn) 98)) && (decide (0 < ((r.bits.length : Nat) : Int))))) Z (dJ _ g9) ?_
        exact bC ⟨⟨Z,Z,Z,Z,trivial⟩,Z,Z⟩
      ·refine qo N Z (bd Z g8 Z ?_)
       refine bh (s := 59) Z (dA g8) ?_
       exact bC ⟨⟨Z,Z,Z,trivial⟩,Z,Z⟩
     ·have g8' := g8
      try simp only [sB] at g8'
      refine rn N Z Z Z g8 (rn N Z Z Z g8 (rn N Z Z Z g8 (ru N Z Z Z (ru N Z Z Z (ru N Z Z Z (ru N Z Z Z (rn N Z Z Z g8 (qo N Z (bg Z g8 Z ?_)))))))))
      refine bh (s := 59) (y := pB ((((((!(inS (aV r.fn) 97)) && (!decide (r.at_ = 0))) || ((!(inS (aV r.fn) 99)) && (!decide (r.count = 0)))) || ((!(inS (aV r.fn) 119)) && (!decide (r.wAt = 0)))) || ((!(inS (aV r.fn) 115)) && (!decide (r.sub = 0)))) || ((!(inS (aV r.fn) 98)) && (decide (0 < ((r.bits.length : Nat) : Int)))))) Z (dz _ g8) ?_
      exact bC ⟨⟨Z,Z,Z,trivial⟩,Z,Z⟩
    ·refine qm N Z Z (cy 10 [Y0,Y1,(70,pB (((((((!(inS (aV r.fn) 97)) && (!decide (r.at_ = 0))) || ((!(inS (aV r.fn) 99)) && (!decide (r.count = 0)))) || ((!(inS (aV r.fn) 119)) && (!decide (r.wAt = 0)))) || ((!(inS (aV r.fn) 115)) && (!decide (r.sub = 0)))) || ((!(inS (aV r.fn) 98)) && (decide (0 < ((r.bits.length : Nat) : Int))))) || ((!(inS (aV r.fn) 118)) && (decide (0 < ((r.vals.length : Nat) : Int))))))] ?_ ?_)
     ·refine bS aF N Z Z Z (fun g10 => ?_) (fun g10 => ?_)
      ·have g10' := g10
       try simp only [sB] at g10'
       refine qm N Z Z (ry N Z Z Z g10 (qo N Z (aO Z Z Z (cp (aV r.fn) 118 (by have := fe r.fn; omega)) Z ?_)))
       refine ry N Z Z Z g10 (qo N Z (eO Z ?_))
       refine ry N Z Z Z g10 (qm N Z Z (cy 5 [Y0,Y1,(60,pB ((((((!(inS (aV r.fn) 97)) && (!decide (r.at_ = 0))) || ((!(inS (aV r.fn) 99)) && (!decide (r.count = 0)))) || ((!(inS (aV r.fn) 119)) && (!decide (r.wAt = 0)))) || ((!(inS (aV r.fn) 115)) && (!decide (r.sub = 0)))) || ((!(inS (aV r.fn) 98)) && (decide (0 < ((r.bits.length : Nat) : Int)))))),(69,pB ((!(inS (aV r.fn) 118)) && (decide (0 < ((r.vals.length : Nat) : Int)))))] ?_ ?_))
       ·refine bS aF N Z Z Z (fun g11 => ?_) (fun g11 => ?_)
        ·have g11' := g11
         try simp only [sB] at g11'
         refine qo N Z (aX bc Z Z bf (by decide) Z ?_)
         refine ry N Z Z Z g11 (qo N Z (bp bf Z Z Z Z Z ?_))
         refine ry N Z Z Z g11 (qo N Z (ca (l := r.vals) bf Z (cf (f := aj) Z) ?_))
         refine ry N Z Z Z g11 (qo N Z (gM Z Z ?_))
         refine ry N Z Z Z g10 (qo N Z (bg Z g11 Z ?_))
         refine bh (s := 69) Z (dI g11) ?_
         exact bC ⟨⟨Z,Z,Z,Z,trivial⟩,Z,Z⟩
        ·have g11' := g11
         try simp only [sB] at g11'
         refine rn N Z Z Z g11 (rn N Z Z Z g11 (rn N Z Z Z g11 (ry N Z Z Z g10 (qo N Z (bd Z g11 Z ?_)))))
         refine bh (s := 69) (y := pB ((!(inS (aV r.fn) 118)) && (decide (0 < ((r.vals.length : Nat) : Int))))) Z (dJ _ g11) ?_
         exact bC ⟨⟨Z,Z,Z,Z,trivial⟩,Z,Z⟩
       ·refine qo N Z (bd Z g10 Z ?_)
        refine bh (s := 70) Z (dA g10) ?_
        exact bC ⟨⟨Z,Z,Z,trivial⟩,Z,Z⟩
      ·have g10' := g10
       try simp only [sB] at g10'
       refine rn N Z Z Z g10 (rn N Z Z Z g10 (rn N Z Z Z g10 (ru N Z Z Z (ru N Z Z Z (ru N Z Z Z (ru N Z Z Z (rn N Z Z Z g10 (qo N Z (bg Z g10 Z ?_)))))))))
       refine bh (s := 70) (y := pB (((((((!(inS (aV r.fn) 97)) && (!decide (r.at_ = 0))) || ((!(inS (aV r.fn) 99)) && (!decide (r.count = 0)))) || ((!(inS (aV r.fn) 119)) && (!decide (r.wAt = 0)))) || ((!(inS (aV r.fn) 115)) && (!decide (r.sub = 0)))) || ((!(inS (aV r.fn) 98)) && (decide (0 < ((r.bits.length : Nat) : Int))))) || ((!(inS (aV r.fn) 118)) && (decide (0 < ((r.vals.length : Nat) : Int)))))) Z (dz _ g10) ?_
       exact bC ⟨⟨Z,Z,Z,trivial⟩,Z,Z⟩
     ·refine qm N Z Z (cy 14 [Y0,(85,pB ((((((((!(inS (aV r.fn) 97)) && (!decide (r.at_ = 0))) || ((!(inS (aV r.fn) 99)) && (!decide (r.count = 0)))) || ((!(inS (aV r.fn) 119)) && (!decide (r.wAt = 0)))) || ((!(inS (aV r.fn) 115)) && (!decide (r.sub = 0)))) || ((!(inS (aV r.fn) 98)) && (decide (0 < ((r.bits.length : Nat) : Int))))) || ((!(inS (aV r.fn) 118)) && (decide (0 < ((r.vals.length : Nat) : Int))))) || ((!(inS (aV r.fn) 109)) && ((!decide (r.and_ = 0)) || (!decide (r.or_ = 0))))))] ?_ ?_)
      ·refine bS aF N Z Z Z (fun g12 => ?_) (fun g12 => ?_)
       ·have g12' := g12
        try simp only [sB] at g12'
        refine qm N Z Z (ry N Z Z Z g12 (qo N Z (aO Z Z Z (cp (aV r.fn) 109 (by have := fe r.fn; omega)) Z ?_)))
        refine ry N Z Z Z g12 (qo N Z (eO Z ?_))
        let Y : Nat × PV := (71,pB (((((((!(inS (aV r.fn) 97)) && (!decide (r.at_ = 0))) || ((!(inS (aV r.fn) 99)) && (!decide (r.count = 0)))) || ((!(inS (aV r.fn) 119)) && (!decide (r.wAt = 0)))) || ((!(inS (aV r.fn) 115)) && (!decide (r.sub = 0)))) || ((!(inS (aV r.fn) 98)) && (decide (0 < ((r.bits.length : Nat) : Int))))) || ((!(inS (aV r.fn) 118)) && (decide (0 < ((r.vals.length : Nat) : Int))))))
        refine ry N Z Z Z g12 (qm N Z Z (cy 9 [Y0,Y,(84,pB ((!(inS (aV r.fn) 109)) && ((!decide (r.and_ = 0)) || (!decide (r.or_ = 0)))))] ?_ ?_))
        ·refine bS aF N Z Z Z (fun g13 => ?_) (fun g13 => ?_)
         ·have g13' := g13
          try simp only [sB] at g13'
          refine qo N Z (aX bc Z Z bE (by decide) Z ?_)
          refine ry N Z Z Z g13 (qo N Z (bp bE Z Z Z Z Z ?_))
          refine ry N Z Z Z g13 (qo N Z (mD (a := r.and_) (b := 0) Z Z ?_))
          refine ry N Z Z Z g13 (qm N Z Z (cy 4 [Y0,Y,(75,pB (!(inS (aV r.fn) 109))),(83,pB ((!decide (r.and_ = 0)) || (!decide (r.or_ = 0))))] ?_ ?_))
          ·refine bS aF N Z Z Z (fun g14 => ?_) (fun g14 => ?_)
           ·have g14' := g14
            try simp only [sB] at g14'
            refine qo N Z (aX bc Z Z bE (by decide) Z ?_)
            refine ry N Z Z Z g14 (qo N Z (bp bE Z Z Z Z Z ?_))
            refine ry N Z Z Z g14 (qo N Z (mD (a := r.or_) (b := 0) Z Z ?_))
            refine ry N Z Z Z g13 (qo N Z (bd Z g14 Z ?_))
            refine bh (s := 83) Z (dA g14) ?_
            exact bC ⟨⟨Z,Z,Z,Z,trivial⟩,Z,Z⟩
           ·have g14' := g14
            try simp only [sB] at g14'
            refine rn N Z Z Z g14 (rn N Z Z Z g14 (ry N Z Z Z g13 (qo N Z (bg Z g14 Z ?_))))
            refine bh (s := 83) (y := pB ((!decide (r.and_ = 0)) || (!decide (r.or_ = 0)))) Z (dz _ g14) ?_
            exact bC ⟨⟨Z,Z,Z,Z,trivial⟩,Z,Z⟩
          ·refine ry N Z Z Z g12 (qo N Z (bg Z g13 Z ?_))
           refine bh (s := 84) Z (dI g13) ?_
           exact bC ⟨⟨Z,Z,Z,trivial⟩,Z,Z⟩
         ·have g13' := g13
          try simp only [sB] at g13'
          refine rn N Z Z Z g13 (rn N Z Z Z g13 (rn N Z Z Z g13 (ru N Z Z Z (ru N Z Z Z (ru N Z Z Z (rn N Z Z Z g13 (ry N Z Z Z g12 (qo N Z (bd Z g13 Z ?_)))))))))
          refine bh (s := 84) (y := pB ((!(inS (aV r.fn) 109)) && ((!decide (r.and_ = 0)) || (!decide (r.or_ = 0))))) Z (dJ _ g13) ?_
          exact bC ⟨⟨Z,Z,Z,trivial⟩,Z,Z⟩
        ·refine qo N Z (bd Z g12 Z ?_)
         refine bh (s := 85) Z (dA g12) ?_
         exact bC ⟨⟨Z,Z,trivial⟩,Z,Z⟩
       ·have g12' := g12
        try simp only [sB] at g12'
        refine rn N Z Z Z g12 (rn N Z Z Z g12 (rn N Z Z Z g12 (ru N Z Z Z (ru N Z Z Z (ru N Z Z Z (ru N Z Z Z (ru N Z Z Z (ru N Z Z Z (ru N Z Z Z ?_)))))))))
        refine ru N Z Z Z (rn N Z Z Z g12 (qo N Z (bg Z g12 Z ?_)))
        refine bh (s := 85) (y := pB ((((((((!(inS (aV r.fn) 97)) && (!decide (r.at_ = 0))) || ((!(inS (aV r.fn) 99)) && (!decide (r.count = 0)))) || ((!(inS (aV r.fn) 119)) && (!decide (r.wAt = 0)))) || ((!(inS (aV r.fn) 115)) && (!decide (r.sub = 0)))) || ((!(inS (aV r.fn) 98)) && (decide (0 < ((r.bits.length : Nat) : Int))))) || ((!(inS (aV r.fn) 118)) && (decide (0 < ((r.vals.length : Nat) : Int))))) || ((!(inS (aV r.fn) 109)) && ((!decide (r.and_ = 0)) || (!decide (r.or_ = 0)))))) Z (dz _ g12) ?_
        exact bC ⟨⟨Z,Z,trivial⟩,Z,Z⟩
      ·refine re (av Z (fun c2 => ?_) (fun c2 => ?_))
       ·have c2_ := c2
        try simp only [sB] at c2
        exact sr (ae N Z Z (aq (s := 2) Z (congrArg pI (show 12 = (bK r) by exact (nh c1_ c2_).symm)) (w_ret (af fp))))
       have c2_ := c2
       try simp only [sB] at c2
       refine aw (ak (an (sr (xp N 2 [.o 2] [] [(87,pI r.at_)] (qo N Z (aO Z Z Z (w_burgageref3_word r.at_) Z ?_))))))
       refine xp N 24 [.o 2,.b 4 [.o 2,.c (pB (aY r.count)),.o 1],.o 1,.b 4 [.o 2,.c (pB (aY r.wAt)),.o 1],.o 1,.b 4 [.o 2,.c (pB (aY r.sub)),.o 1],.o 1,.b 3 [.o 1,.c (pB (dk r)),.o 1]] [(!(aY r.at_)) = false → AllP [T Tryz.prog 34 [pI r.count] 0 [] (Ret (pB (aY r.count)) 0 [])],((!(aY r.at_)) || (!(aY r.count))) = false → AllP [T Tryz.prog 34 [pI r.wAt] 0 [] (Ret (pB (aY r.wAt)) 0 [])],(((!(aY r.at_)) || (!(aY r.count))) || (!(aY r.wAt))) = false → AllP [T Tryz.prog 34 [pI r.sub] 0 [] (Ret (pB (aY r.sub)) 0 [])],((((!(aY r.at_)) || (!(aY r.count))) || (!(aY r.wAt))) || (!(aY r.sub))) = false → AllP [T Tryz.prog 75 [PV.f (bx r)] 0 [] (Ret (pB (dk r)) 0 [])]] [(112,pB (((((!(aY r.at_)) || (!(aY r.count))) || (!(aY r.wAt))) || (!(aY r.sub))) || (!(dk r))))] ?_ (hc := ⟨by intro hq; (try simp only [sB] at hq); exact ⟨(w_burgageref3_word r.count),trivial⟩,by intro hq; (try simp only [sB] at hq); exact ⟨(w_burgageref3_word r.wAt),trivial⟩,by intro hq; (try simp only [sB] at hq); exact ⟨(w_burgageref3_word r.sub),trivial⟩,by intro hq; (try simp only [sB] at hq); exact ⟨(w_burgageref3_lists r (by omega) (by omega)),trivial⟩,trivial⟩)
       refine re (av Z (fun c3 => ?_) (fun c3 => ?_))
       ·have c3_ := c3
        try simp only [sB] at c3
        exact sr (ae N Z Z (aq (s := 2) Z (congrArg pI (show 12 = (bK r) by exact (ng c1_ c2_ c3_).symm)) (w_ret (af fp))))
       have c3_ := c3
       try simp only [sB] at c3
       exact aw (ak (sr (ae N Z Z (aq (s := 2) Z (congrArg pI (show 0 = (bK r) by exact (nf c1_ c2_ c3_).symm)) (w_ret fp)))))
theorem eh (b : List UInt8) (wr : Bool) (x : List UInt8) (cl_x : Bool) (hb : b.length ≤ 1000) (hx : x.length ≤ 70000000000000) :
    T Tryz.prog 60 [PV.ref 0 0 none,pS 1 cl_x az x] 1 [(0,oB wr 1 az b)] (Ret (PV.ref 1 0 none) 2 [(1,oB wr 1 az (b ++ cY x))]) := by
 refine bn aF (n := 13) (rs := [.tmp 4]) Tryz.func60 Z Z Z Z (nb Z) ?_
 intro c N hk
 refine sr (ae N Z Z (sr (qm N Z Z (qm N Z Z (qo N Z (ca (l := x) tab_38 Z (cf (f := az) Z) ?_))))))
 refine qo N Z (u5 (a := x.length) aD tab_5 Z Z Z (by omega) ?_)
 refine qo N Z (bM (f := az) [UInt8.ofNat x.length] tab_38 Z tab_5 ⟨Z,by decide⟩ (by decide) Z Z Z Z ?_)
 refine qo N Z (bZ (f := az) (l := b) (xs := [UInt8.ofNat x.length]) tab_38 Z tab_5 ⟨Z,by decide,by decide⟩ (da tab_38 Z (ct (f := az) Z Z)) Z Z (by (simp; omega)) ?_)
 refine qm N Z Z (qo N Z (bZ (f := az) (l := b ++ [UInt8.ofNat x.length]) (xs := x) tab_38 Z tab_5 ⟨Z,by decide,by decide⟩ (da tab_38 Z (cf (f := az) Z)) Z Z (by (simp; omega)) ?_))
 let Y : Nat × Pv.Obj := (1,oB true 1 az [UInt8.ofNat x.length])
 refine qa N Z Z (aE [(4,PV.ref 3 0 none)] [(3,oB wr 1 az ((b ++ [UInt8.ofNat x.length]) ++ x)),Y] 4 ⟨Z,trivial⟩ Z Z (re (eN (H' := [(3,oB wr 1 az (b ++ cY x)),Y]) (congrArg (fun z => ([(3,oB wr 1 az z),Y] : ah)) (show (b ++ [UInt8.ofNat x.length]) ++ x = b ++ cY x by simp [cY])) (w_ret ?_))))
 exact bB (nx1 := 2) (H1 := [(1,oB wr 1 az (b ++ cY x))]) [(1,3)] (ret_tmp Z ret_nil) Z (by decide) ⟨⟨_,_,Z,Z,Z,Z⟩,trivial⟩ (by decide) Z ⟨Z,Z,Z⟩
theorem lE (r : TRequest) (hb : r.bits.length ≤ 140737488351232) (hv : r.vals.length ≤ 1000000) (h5 : r.fn = 5 → 1 ≤ r.bits.length) (h6 : (r.fn = 6 ∨ r.fn = 8) → 1 ≤ r.vals.length) :
    T Tryz.prog 64 [PV.f (bx r)] 0 [] (Ret (PV.ref 0 0 none) 1 [(0,oB false 1 az (cx r))]) := by
 refine bn aF (n := 106) (rs := [.tmp 2]) Tryz.func64 Z Z Z Z (nb Z) ?_
 intro c N hk
 refine sr (qo N Z (cu Z Z ?_))
 let Y1 : Nat × Pv.Obj := (0,.obj (cd r))
 let Yb6 : Nat × PV := (1,PV.ptr 0 0)
 refine qa N Z Z (aE [Yb6] [Y1] 1 ⟨Z,trivial⟩ Z Z (re (sr (xp N 2 [.o 2] [] [(7,pI r.fn)] (qo N Z (nZ aD tab_5 Z Z Z ?_))))))
 refine qo N Z (bM (f := az) [bz r.fn] tab_38 Z tab_5 ⟨Z,by decide⟩ (by decide) Z Z Z Z ?_)
 let Y0 : Nat × Pv.Obj := (1,oB false 1 az [bz r.fn])
 let Y3 : Nat × Pv.Obj := (2,oB true 1 az ([bz r.fn] ++ aJ r.at_))
 refine qa N Z Z (aE [Yb6,(3,PV.ref 1 0 none)] [(1,oB true 1 az [bz r.fn]),Y1] 2 ⟨Z,Z,trivial⟩ Z Z (re (sr (xp N 3 [.o 3] [] [(10,PV.ref 1 0 none),(12,pI r.at_)] (qo N Z (aN 3 (PV.ref 2 0 none) [Y3,Y0,Y1] [] (co [bz r.fn] false r.at_ (by (simp; done))) ?_))))))
 refine qa N Z Z (aE [Yb6,(3,PV.ref 1 0 none),(4,PV.ref 2 0 none)] [Y3,Y0,Y1] 3 ⟨Z,Z,Z,trivial⟩ Z Z (re (an (sr (xp N 2 [.o 2] [] [(15,pI r.fn)] ?_)))))
 let Y : Nat × Pv.Obj := (2,oB false 1 az ([bz r.fn] ++ aJ r.at_))
 let Y2 : Nat × Pv.Obj := (3,oB true 1 az (([bz r.fn] ++ aJ r.at_) ++ aJ r.count))
 let Y6 : ah := [(0,oB false 1 az (cx r))]
 let Ya4 : ah := [(3,oB false 1 az (cx r)),Y,Y0,Y1]
 let Yb2 : aI := [(2,PV.ref 3 0 none)]
 refine re (aP (xo N 16 [[.o 2],[.o 2],[.o 2],[.o 2]] [] ((decide (r.fn = 1)) || ((decide (r.fn = 2)) || ((decide (r.fn = 3)) || (decide (r.fn = 4))))) (av Z (fun c4 => ?_) (fun c4 => ?_))))
 ·have c4_ := c4
  try simp only [sB,Bool.or_eq_true,Bool.or_eq_false_iff] at c4
  refine sr (xp N 3 [.o 3] [] [(21,PV.ref 2 0 none),(23,pI r.count)] (qo N Z (aN 4 (PV.ref 3 0 none) [Y2,Y,Y0,Y1] [] (co ([bz r.fn] ++ aJ r.at_) false r.count (by (simp; done))) ?_)))
  refine qa N Z Z (aE Yb2 [Y2,Y,Y0,Y1] 4 ⟨Z,trivial⟩ Z Z (re (fN (n := 3) Z (eN (H' := Ya4) (congrArg (fun z => ([(3,oB false 1 az z),Y,Y0,Y1] : ah)) (show ([bz r.fn] ++ aJ r.at_) ++ aJ r.count = cx r by (rw [qR (by omega)]; simp; done))) (w_ret (am (af ?_)))))))
  exact bB (nx1 := 1) (H1 := Y6) [(0,3)] (ret_tmp Z ret_nil) Z (by decide) ⟨⟨_,_,Z,Z,Z,Z⟩,trivial⟩ (by decide) Z ⟨Z,Z,Z⟩
 have c4_ := c4
 try simp only [sB,Bool.or_eq_true,Bool.or_eq_false_iff] at c4
 refine sr (xp N 2 [.o 2] [] [(25,pB (decide (r.fn = 5)))] (re (av Z (fun c5 => ?_) (fun c5 => ?_))))
 ·have c5_ := c5
  try simp only [sB] at c5
  refine an (sr (xp N 2 [.o 2] [] [(28,pS 1 false ar r.bits)] ?_))
  obtain ⟨e1,he1⟩ := bl r.bits (i := 0) (by omega)
  refine qo N Z (cA (q := 0) (b := e1) (f := ar) bT Z dE Z Z (by omega) Z he1 ?_)
  refine xp N 1 [.o 1] [] [(30,pB e1)] (re (av Z (fun c6 => ?_) (fun c6 => ?_)))
  ·have c6_ := c6
   try simp only [sB] at c6
   let Yb0 : ah := [(3,oB true 1 az (([bz r.fn] ++ aJ r.at_) ++ aJ 65280)),Y,Y0,Y1]
   refine sr (qm N Z Z (qo N Z (aN 4 (PV.ref 3 0 none) Yb0 [] (co ([bz r.fn] ++ aJ r.at_) false 65280 (by (simp; done))) ?_)))
   refine qa N Z Z (aE Yb2 Yb0 4 ⟨Z,trivial⟩ Z Z (re (fN (n := 3) Z (eN (H' := Ya4) (congrArg (fun z => ([(3,oB false 1 az z),Y,Y0,Y1] : ah)) (show ([bz r.fn] ++ aJ r.at_) ++ aJ 65280 = cx r by (rw [m0 (by omega) (by assumption)]; simp [*]; done))) (w_ret (af (am (af ?_))))))))
   exact bB (nx1 := 1) (H1 := Y6) [(0,3)] (ret_tmp Z ret_nil) Z (by decide) ⟨⟨_,_,Z,Z,Z,Z⟩,trivial⟩ (by decide) Z ⟨Z,Z,Z⟩
  have c6_ := c6
  try simp only [sB] at c6
  let Yb1 : ah := [(3,oB true 1 az (([bz r.fn] ++ aJ r.at_) ++ aJ 0)),Y,Y0,Y1]
  refine aw (ak (sr (qm N Z Z (qo N Z (aN 4 (PV.ref 3 0 none) Yb1 [] (co ([bz r.fn] ++ aJ r.at_) false 0 (by (simp; done))) ?_)))))
  refine qa N Z Z (aE Yb2 Yb1 4 ⟨Z,trivial⟩ Z Z (re (fN (n := 3) Z (eN (H' := Ya4) (congrArg (fun z => ([(3,oB false 1 az z),Y,Y0,Y1] : ah)) (show ([bz r.fn] ++ aJ r.at_) ++ aJ 0 = cx r by (rw [m0 (by omega) (by assumption)]; simp [*]; done))) (w_ret (am (af ?_)))))))
  exact bB (nx1 := 1) (H1 := Y6) [(0,3)] (ret_tmp Z ret_nil) Z (by decide) ⟨⟨_,_,Z,Z,Z,Z⟩,trivial⟩ (by decide) Z ⟨Z,Z,Z⟩
 have c5_ := c5
 try simp only [sB] at c5
 refine sr (xp N 2 [.o 2] [] [(35,pB (decide (r.fn = 6)))] (re (av Z (fun c7 => ?_) (fun c7 => ?_))))
 ·have c7_ := c7
  try simp only [sB] at c7
  refine sr (xp N 3 [.o 3] [] [(37,PV.ref 2 0 none),(39,pS 1 false aj r.vals)] ?_)
  obtain ⟨e2,he2⟩ := bl r.vals (i := 0) (by omega)
  refine qo N Z (cA (q := 0) (b := e2) (f := aj) bf Z bE Z Z (by omega) Z he2 ?_)
  refine xp N 2 [.o 2] [bu ((UInt16.toNat e2 : Nat) : Int)] [(42,pN (UInt16.toNat e2))] ?_ (hc := ⟨by unfold bu; have := rX e2; omega,trivial⟩)
  let Ya5 : ah := [(3,oB true 1 az (([bz r.fn] ++ aJ r.at_) ++ aJ ((UInt16.toNat e2 : Nat) : Int))),Y,Y0,Y1]
  refine qo N Z (aN 4 (PV.ref 3 0 none) Ya5 [] (co ([bz r.fn] ++ aJ r.at_) false ((UInt16.toNat e2 : Nat) : Int) (by (simp; done))) ?_)
  refine qa N Z Z (aE Yb2 Ya5 4 ⟨Z,trivial⟩ Z Z (re (fN (n := 3) Z (eN (H' := Ya4) (congrArg (fun z => ([(3,oB false 1 az z),Y,Y0,Y1] : ah)) (show ([bz r.fn] ++ aJ r.at_) ++ aJ ((UInt16.toNat e2 : Nat) : Int) = cx r by (rw [qQ (by omega) (by assumption)]; simp; done))) (w_ret (am (af ?_)))))))
  exact bB (nx1 := 1) (H1 := Y6) [(0,3)] (ret_tmp Z ret_nil) Z (by decide) ⟨⟨_,_,Z,Z,Z,Z⟩,trivial⟩ (by decide) Z ⟨Z,Z,Z⟩
 have c7_ := c7
 try simp only [sB] at c7
 refine sr (xp N 2 [.o 2] [] [(44,pB (decide (r.fn = 8)))] (re (av Z (fun c8 => ?_) (fun c8 => ?_))))
 ·have c8_ := c8
  try simp only [sB] at c8
  let Ya3 : Nat × Pv.Obj := (3,oB true 1 az ([bz r.fn] ++ aJ r.sub))
  refine an (cK N (xq 3 [.o 3] [] (xk [(46,PV.ref 1 0 none),(48,pI r.sub)] [] [Y0] [Ya3,Y0] [Ya3,Y0,Y3,Y1] (aN 4 (PV.ref 3 0 none) _ [] (co [bz r.fn] false r.sub (by (simp; done))) ⟨Z,Z,Z⟩) (xq 2 [.o 2] [] ?_))))
  obtain ⟨e3,he3⟩ := bl r.vals (i := 0) (by omega)
  refine xk [(51,pS 1 false aj r.vals)] [] [] [] [Ya3,Y0,Y3,Y1] (cA (q := 0) (b := e3) (f := aj) bf Z bE Z Z (by omega) Z he3 ⟨Z,Z,Z⟩) (xq 2 [.o 2] [bu ((UInt16.toNat e3 : Nat) : Int)] ?_ (hc := ⟨by unfold bu; have := rX e3; omega,trivial⟩))
  let Ya2 : Nat × Pv.Obj := (3,oB false 1 az ([bz r.fn] ++ aJ r.sub))
  let Yb : Nat × Pv.Obj := (4,oB true 1 az (([bz r.fn] ++ aJ r.sub) ++ aJ ((UInt16.toNat e3 : Nat) : Int)))
  refine xk [(49,PV.ref 3 0 none),(54,pN (UInt16.toNat e3))] [] [Ya3] [Yb,Ya2] [Yb,Ya2,Y0,Y3,Y1] (aN 5 (PV.ref 4 0 none) _ [] (co ([bz r.fn] ++ aJ r.sub) false ((UInt16.toNat e3 : Nat) : Int) (by (simp; done))) ⟨Z,Z,Z⟩) (xq 1 [.o 1] [] (xe [(2,PV.ref 4 0 none)] (re (fN (n := 4) Z (eN (H' := [(4,oB false 1 az (cx r)),Ya2,Y0,Y3,Y1]) (congrArg (fun z => ([(4,oB false 1 az z),Ya2,Y0,Y3,Y1] : ah)) (show ([bz r.fn] ++ aJ r.sub) ++ aJ ((UInt16.toNat e3 : Nat) : Int) = cx r by (rw [qP (by omega) (by assumption)]; simp; done))) ?_)))))
  refine w_ret (am (af ?_))
  exact bB (nx1 := 1) (H1 := Y6) [(0,4)] (ret_tmp Z ret_nil) Z (by decide) ⟨⟨_,_,Z,Z,Z,Z⟩,trivial⟩ (by decide) Z ⟨Z,Z,Z⟩
 have c8_ := c8
 try simp only [sB] at c8
 refine sr (qo N Z (bF Z Z ?_))
 refine ae N Z Z (av Z (fun c9 => ?_) (fun c9 => ?_))
 ·have c9_ := c9
  try simp only [sB] at c9
  let Yb5 : Nat × Pv.Obj := (4,oB true 1 az (packL r.bits))
  refine an (cK N (xq 3 [.o 3] [] (xk [(58,PV.ref 2 0 none),(60,pI r.count)] [] [Y3] [Y2,Y] [Y2,Y,Y0,Y1] (aN 4 (PV.ref 3 0 none) _ [] (co ([bz r.fn] ++ aJ r.at_) false r.count (by (simp; done))) ⟨Z,Z,Z⟩) (xq 2 [.o 2] [] (xk [(63,pS 1 false ar r.bits)] [] [] [Yb5] [Yb5,Y2,Y,Y0,Y1] (aN 5 (PV.ref 4 0 none) _ [] (iV r.bits false (by omega)) ⟨Z,Z,Z⟩) ?_)))))
  let Ya7 : Nat × Pv.Obj := (4,oB false 1 az (packL r.bits))
  let Ya9 : Nat × Pv.Obj := (5,oB true 1 az ((([bz r.fn] ++ aJ r.at_) ++ aJ r.count) ++ cY (packL r.bits)))
  refine xk [(61,PV.ref 3 0 none),(64,PV.ref 4 0 none)] [] [Y2,Yb5] [Ya9,Ya7] [Ya9,Ya7,Y,Y0,Y1] (aN 6 (PV.ref 5 0 none) _ [3] (eh (([bz r.fn] ++ aJ r.at_) ++ aJ r.count) true (packL r.bits) false (by (simp; done)) (by (simp; omega))) ⟨Z,Z,Z⟩) (xq 1 [.o 1] [] (xe [(2,PV.ref 5 0 none)] (re (fN (n := 5) Z (eN (H' := [(5,oB false 1 az (cx r)),Ya7,Y,Y0,Y1]) (congrArg (fun z => ([(5,oB false 1 az z),Ya7,Y,Y0,Y1] : ah)) (show (([bz r.fn] ++ aJ r.at_) ++ aJ r.count) ++ cY (packL r.bits) = cx r by (rw [pu (by omega)]; simp; done))) ?_)))))
  refine w_ret (am (af ?_))
  exact bB (nx1 := 1) (H1 := Y6) [(0,5)] (ret_tmp Z ret_nil) Z (by decide) ⟨⟨_,_,Z,Z,Z,Z⟩,trivial⟩ (by decide) Z ⟨Z,Z,Z⟩
 have c9_ := c9
 try simp only [sB] at c9
 refine sr (qo N Z (bF Z Z ?_))
 refine ae N Z Z (av Z (fun c10 => ?_) (fun c10 => ?_))
 ·have c10_ := c10
  try simp only [sB] at c10
  let Yb4 : Nat × Pv.Obj := (4,oB true 1 az (bW r.vals))
  refine an (cK N (xq 3 [.o 3] [] (xk [(68,PV.ref 2 0 none),(70,pI r.count)] [] [Y3] [Y2,Y] [Y2,Y,Y0,Y1] (aN 4 (PV.ref 3 0 none) _ [] (co ([bz r.fn] ++ aJ r.at_) false r.count (by (simp; done))) ⟨Z,Z,Z⟩) (xq 2 [.o 2] [] (xk [(73,pS 1 false aj r.vals)] [] [] [Yb4] [Yb4,Y2,Y,Y0,Y1] (aN 5 (PV.ref 4 0 none) _ [] (ga r.vals false (by omega)) ⟨Z,Z,Z⟩) ?_)))))
  let Ya6 : Nat × Pv.Obj := (4,oB false 1 az (bW r.vals))
  let Ya8 : Nat × Pv.Obj := (5,oB true 1 az ((([bz r.fn] ++ aJ r.at_) ++ aJ r.count) ++ cY (bW r.vals)))
  refine xk [(71,PV.ref 3 0 none),(74,PV.ref 4 0 none)] [] [Y2,Yb4] [Ya8,Ya6] [Ya8,Ya6,Y,Y0,Y1] (aN 6 (PV.ref 5 0 none) _ [3] (eh (([bz r.fn] ++ aJ r.at_) ++ aJ r.count) true (bW r.vals) false (by (simp; done)) (by (simp; omega))) ⟨Z,Z,Z⟩) (xq 1 [.o 1] [] (xe [(2,PV.ref 5 0 none)] (re (fN (n := 5) Z (eN (H' := [(5,oB false 1 az (cx r)),Ya6,Y,Y0,Y1]) (congrArg (fun z => ([(5,oB false 1 az z),Ya6,Y,Y0,Y1] : ah)) (show (([bz r.fn] ++ aJ r.at_) ++ aJ r.count) ++ cY (bW r.vals) = cx r by (rw [pt (by omega)]; simp; done))) ?_)))))
  refine w_ret (am (af ?_))
  exact bB (nx1 := 1) (H1 := Y6) [(0,5)] (ret_tmp Z ret_nil) Z (by decide) ⟨⟨_,_,Z,Z,Z,Z⟩,trivial⟩ (by decide) Z ⟨Z,Z,Z⟩
 have c10_ := c10
 try simp only [sB] at c10
 refine sr (qo N Z (bF Z Z ?_))
 refine ae N Z Z (av Z (fun c11 => ?_) (fun c11 => ?_))
 ·have c11_ := c11
  try simp only [sB] at c11
  refine an (cK N (xq 4 [.o 4] [bu ((UInt16.toNat r.and_ : Nat) : Int)] ?_ (hc := ⟨by unfold bu; have := rX r.and_; omega,trivial⟩)))
  let Ya : Nat × Pv.Obj := (3,oB true 1 az (([bz r.fn] ++ aJ r.at_) ++ aJ ((UInt16.toNat r.and_ : Nat) : Int)))
  refine xk [(78,PV.ref 2 0 none),(81,pN (UInt16.toNat r.and_))] [] [Y3] [Ya,Y] [Ya,Y,Y0,Y1] (aN 4 (PV.ref 3 0 none) _ [] (co ([bz r.fn] ++ aJ r.at_) false ((UInt16.toNat r.and_ : Nat) : Int) (by (simp; done))) ⟨Z,Z,Z⟩) (xq 3 [.o 3] [bu ((UInt16.toNat r.or_ : Nat) : Int)] ?_ (hc := ⟨by unfold bu; have := rX r.or_; omega,trivial⟩))
  let Y7 : Nat × Pv.Obj := (3,oB false 1 az (([bz r.fn] ++ aJ r.at_) ++ aJ ((UInt16.toNat r.and_ : Nat) : Int)))
  let Ya1 : Nat × Pv.Obj := (4,oB true 1 az ((([bz r.fn] ++ aJ r.at_) ++ aJ ((UInt16.toNat r.and_ : Nat) : Int)) ++ aJ ((UInt16.toNat r.or_ : Nat) : Int)))
  refine xk [(82,PV.ref 3 0 none),(85,pN (UInt16.toNat r.or_))] [] [Ya] [Ya1,Y7] [Ya1,Y7,Y,Y0,Y1] (aN 5 (PV.ref 4 0 none) _ [] (co (([bz r.fn] ++ aJ r.at_) ++ aJ ((UInt16.toNat r.and_ : Nat) : Int)) false ((UInt16.toNat r.or_ : Nat) : Int) (by (simp; done))) ⟨Z,Z,Z⟩) (xq 1 [.o 1] [] (xe [(2,PV.ref 4 0 none)] (re (fN (n := 4) Z (eN (H' := [(4,oB false 1 az (cx r)),Y7,Y,Y0,Y1]) (congrArg (fun z => ([(4,oB false 1 az z),Y7,Y,Y0,Y1] : ah)) (show (([bz r.fn] ++ aJ r.at_) ++ aJ ((UInt16.toNat r.and_ : Nat) : Int)) ++ aJ ((UInt16.toNat r.or_ : Nat) : Int) = cx r by (rw [pr (by omega)]; simp; done))) ?_)))))
  refine w_ret (am (af ?_))
  exact bB (nx1 := 1) (H1 := Y6) [(0,4)] (ret_tmp Z ret_nil) Z (by decide) ⟨⟨_,_,Z,Z,Z,Z⟩,trivial⟩ (by decide) Z ⟨Z,Z,Z⟩
 have c11_ := c11
 try simp only [sB] at c11
 refine sr (qo N Z (bF Z Z ?_))
 refine ae N Z Z (av Z (fun c12 => ?_) (fun c12 => ?_))
 ·have c12_ := c12
  try simp only [sB] at c12
  let Y5 : Nat × Pv.Obj := (3,oB false 1 az (([bz r.fn] ++ aJ r.at_) ++ aJ r.count))
  let Ya0 : Nat × Pv.Obj := (4,oB true 1 az ((([bz r.fn] ++ aJ r.at_) ++ aJ r.count) ++ aJ r.wAt))
  refine an (cK N (xq 3 [.o 3] [] (xk [(89,PV.ref 2 0 none),(91,pI r.count)] [] [Y3] [Y2,Y] [Y2,Y,Y0,Y1] (aN 4 (PV.ref 3 0 none) _ [] (co ([bz r.fn] ++ aJ r.at_) false r.count (by (simp; done))) ⟨Z,Z,Z⟩) (xq 2 [.o 2] [] (xk [(92,PV.ref 3 0 none),(94,pI r.wAt)] [] [Y2] [Ya0,Y5] [Ya0,Y5,Y,Y0,Y1] (aN 5 (PV.ref 4 0 none) _ [] (co (([bz r.fn] ++ aJ r.at_) ++ aJ r.count) false r.wAt (by (simp; done))) ⟨Z,Z,Z⟩) ?_)))))
  refine xq 3 [.o 2,.c (pN r.vals.length)] [cC aj r.vals] ?_ (hc := ⟨lenC_ok _ _,trivial⟩)
  let Y4 : Nat × Pv.Obj := (4,oB false 1 az ((([bz r.fn] ++ aJ r.at_) ++ aJ r.count) ++ aJ r.wAt))
  let Y8 : Nat × Pv.Obj := (5,oB true 1 az (((([bz r.fn] ++ aJ r.at_) ++ aJ r.count) ++ aJ r.wAt) ++ aJ ((r.vals.length : Nat) : Int)))
  refine xk [(95,PV.ref 4 0 none),(98,pN r.vals.length)] [] [Ya0] [Y8,Y4] [Y8,Y4,Y5,Y,Y0,Y1] (aN 6 (PV.ref 5 0 none) _ [] (co ((([bz r.fn] ++ aJ r.at_) ++ aJ r.count) ++ aJ r.wAt) false ((r.vals.length : Nat) : Int) (by (simp; done))) ⟨Z,Z,Z⟩) (xq 1 [.o 1] [] (xe [Yb6,(5,PV.ref 5 0 none)] (re (sr (xp N 3 [.o 3] [] [(100,PV.ref 5 0 none),(102,pS 1 false aj r.vals)] ?_)))))
  refine qo N Z (aN 7 (PV.ref 6 0 none) [(6,oB true 1 az (bW r.vals)),Y8,Y4,Y5,Y,Y0,Y1] [] (ga r.vals false (by omega)) ?_)
  let Yb3 : Nat × Pv.Obj := (6,oB false 1 az (bW r.vals))
  let Y9 : ah := [(7,oB true 1 az ((((([bz r.fn] ++ aJ r.at_) ++ aJ r.count) ++ aJ r.wAt) ++ aJ ((r.vals.length : Nat) : Int)) ++ cY (bW r.vals))),Yb3,Y4,Y5,Y,Y0,Y1]
  refine qo N Z (aN 8 (PV.ref 7 0 none) Y9 [5] (eh (((([bz r.fn] ++ aJ r.at_) ++ aJ r.count) ++ aJ r.wAt) ++ aJ ((r.vals.length : Nat) : Int)) true (bW r.vals) false (by (simp; done)) (by (simp; omega))) ?_)
  refine qa N Z Z (aE [(2,PV.ref 7 0 none)] Y9 8 ⟨Z,trivial⟩ Z Z (re (fN (n := 7) Z (eN (H' := [(7,oB false 1 az (cx r)),Yb3,Y4,Y5,Y,Y0,Y1]) (congrArg (fun z => ([(7,oB false 1 az z),Yb3,Y4,Y5,Y,Y0,Y1] : ah)) (show (((([bz r.fn] ++ aJ r.at_) ++ aJ r.count) ++ aJ r.wAt) ++ aJ ((r.vals.length : Nat) : Int)) ++ cY (bW r.vals) = cx r by (rw [pq (by omega)]; simp; done))) (w_ret (am (af ?_)))))))
  exact bB (nx1 := 1) (H1 := Y6) [(0,7)] (ret_tmp Z ret_nil) Z (by decide) ⟨⟨_,_,Z,Z,Z,Z⟩,trivial⟩ (by decide) Z ⟨Z,Z,Z⟩
 have c12_ := c12
 try simp only [sB] at c12
 refine aw (aG (ak (sr (qm N Z Z (ae N Z Z (eN (H' := [Y3,(1,oB false 1 az (cx r)),Y1]) (congrArg (fun z => ([Y3,(1,oB false 1 az z),Y1] : ah)) (show [bz r.fn] = cx r by (rw [pp (by omega)]; done))) (w_ret ?_)))))))
 exact bB (nx1 := 1) (H1 := Y6) [(0,1)] (ret_tmp Z ret_nil) Z (by decide) ⟨⟨_,_,Z,Z,Z,Z⟩,trivial⟩ (by decide) Z ⟨Z,Z,Z⟩
def ag (L : List Int) (a : Nat) (n : Int) : Int := if L.length ≤ a ∨ n < 1 then 0 else (dW (L.getD a 0) 0 1073741824).tmod n
def ad (L : List Int) (a : Nat) (n : Int) : Nat := if L.length ≤ a ∨ n < 1 then a else a + 1
theorem b9 (L : List Int) (a : Nat) {n : Int} (h : 1 ≤ n) : 0 ≤ ag L a n ∧ ag L a n < n := by
  unfold ag
  split
  · omega
  · have := ox (L.getD a 0) (lo := 0) (hi := 1073741824) (by decide)
    exact ⟨Int.tmod_nonneg _ this.1,Int.tmod_lt_of_pos _ (by omega)⟩
def tRow {α : Type} (f : Int → α) (n : Int) (L : List Int) (a : Nat) : Nat → List α × Nat
  | 0 => ([],a)
  | k + 1 => ((tRow f n L a k).1 ++ [f (ag L (tRow f n L a k).2 n)],ad L (tRow f n L a k).2 n)
theorem eE {α : Type} (f : Int → α) (n : Int) (L : List Int) (a : Nat) : ∀ k,(tRow f n L a k).1.length = k
  | 0 => rfl
  | k + 1 => by simp [tRow,eE f n L a k]
def fnsL : List Int := [1,2,3,4,5,6,8,15,16,17,22,23]
def ip (n : Int) : Bool := decide (n = 1)
section
variable {L : List Int}{f w : Int}{a : Nat}
theorem tW {x : Int} : (bV x).toNat = (x % 65536).toNat := by
  simp only [bV]
  rw [UInt16.toNat_ofNat']; omega
end
theorem zQ {i : Nat}{f : Int} (h : fnsL[i]? = some f) : bO f = true := by
  have hz := List.mem_of_getElem? h
  simp only [fnsL,List.mem_cons,List.not_mem_nil,or_false] at hz
  unfold bO
  exact decide_eq_true (by omega)
def gh (q : TRequest) : Int := if q.fn = 5 then 1 else if q.fn = 15 then q.count else 0
def eQ (q : TRequest) : Int := if q.fn = 6 ∨ q.fn = 8 then 1 else if q.fn = 16 then q.count else if q.fn = 23 then ((q.vals.length : Nat) : Int) else 0
def fZ (q : TRequest) : Bool := decide (((q.fn ≠ 8 ∧ q.fn ≠ 17) ∨ q.at_ = 0) ∧ (((1 ≤ q.fn ∧ q.fn ≤ 4) ∨ q.fn = 15 ∨ q.fn = 16 ∨ q.fn = 23) ∨ q.count = 0) ∧ (q.fn = 23 ∨ q.wAt = 0) ∧ (q.fn = 8 ∨ q.sub = 0) ∧ (q.fn = 22 ∨ (q.and_.toNat = 0 ∧ q.or_.toNat = 0)))
def qy (q : TRequest) : Bool := ((((!(fZ q)) || (!(aY q.at_))) || (!(aY q.wAt))) || (!(aY q.sub))) || (!(aY q.count))
theorem tb {q : TRequest} (hf : bO q.fn = true) : ShapeR q ↔ qy q = false ∧ ((q.bits.length : Nat) : Int) = gh q ∧ ((q.vals.length : Nat) : Int) = eQ q ∧ q.bits.length ≤ 2040 ∧ q.vals.length ≤ 127 := by
  have hc := hasF_of hf
  unfold qy fZ aY gh eQ
  simp only [Bool.or_eq_false_iff,Bool.not_eq_false',decide_eq_true_eq]
  constructor
  · rintro ⟨wa,wc,ww,ws,za,zc,zw,zs,zm,hb,hv⟩
    refine ⟨⟨⟨⟨⟨⟨by omega,by omega,by omega,by omega,by omega⟩,wa⟩,ww⟩,ws⟩,wc⟩, ?_, ?_, ?_, ?_⟩
    · repeat' split at hb
      all_goals (repeat' split) <;> omega
    · repeat' split at hv
      all_goals (repeat' split) <;> omega
    · repeat' split at hb
      all_goals omega
    · repeat' split at hv
      all_goals omega
  · rintro ⟨⟨⟨⟨⟨⟨a1,a2,a3,a4,a5⟩,wa⟩,ww⟩,ws⟩,wc⟩,hb,hv,hb2,hv2⟩
    refine ⟨wa,wc,ww,ws,by omega,by omega,by omega,by omega,by omega, ?_, ?_⟩
    · repeat' split at hb
      all_goals (repeat' split) <;> omega
    · repeat' split at hv
      all_goals (repeat' split) <;> omega
theorem zg {q : TRequest} (hf : bO q.fn = true) (h1 : qy q = false) (h2 : ((q.bits.length : Nat) : Int) = gh q) (h3 : ((q.vals.length : Nat) : Int) = eQ q) (h4 : q.bits.length ≤ 2040) (h5 : q.vals.length ≤ 127) : bK q = 0 :=
  (cU hf).2 ((tb hf).2 ⟨h1,h2,h3,h4,h5⟩)
theorem kq {q : TRequest} (hf : bO q.fn = true) (h : ¬ (qy q = false ∧ ((q.bits.length : Nat) : Int) = gh q ∧ ((q.vals.length : Nat) : Int) = eQ q ∧ q.bits.length ≤ 2040 ∧ q.vals.length ≤ 127)) : bK q = 12 :=
  sP hf fun hs => h ((tb hf).1 hs)
end Go.Proofs.YtlcmbkkimgdnmaaGreat
