/- What the law TopUnits needs, and no more: merged out of texts of this session by a program of it (wip/tools/prune.py). -/
import Derived.Test.YtnajikpdnccilaaGreatQTopUnits2
set_option linter.unusedVariables false
set_option linter.unusedSimpArgs false
namespace Go.Proofs.YtnajikpdnccilaaGreat.Pv.M
open Go
section
variable {ρ : Nat → Int}{P : Program}{D : Dm}{cx : Dm → CallK}
theorem put_self {ρ1 ρ2 : Nat → Int}{φ : Nat → Ph}{nx : Nat}{l r1 : List MV}{x1 x2 : MV}{i : Nat} (h1 : put [x1] i l = some r1) (h2 : l[i]? = some x2) (hl : ∀ x ∈ l,Alike ρ1 φ nx ρ2 x x) (hx : Alike ρ1 φ nx ρ2 x1 x2) :
    AlikeO ρ1 φ nx ρ2 (.cells r1) (.cells l) := by
  refine cells_alike (put_length h1) fun j c d hc hd => ?_
  rw [put1_get h1] at hc
  by_cases e : j = i
  · subst e; rw [if_pos rfl] at hc; cases hc; rw [h2] at hd; cases hd; exact hx
  · rw [if_neg e] at hc; rw [hc] at hd; cases hd; exact hl c (List.mem_of_getElem? hc)
theorem dmX_ok (hD : OkD D ρ) {kc : Int}{kl : List Int} (h7 : Nat.ble (len kl) (len D.bs) = true) (h8 : allB (fun f => Nat.ble (len f.2) (len D.bs)) D.fs = true) (h2 : kc + dot ρ 0 kl ≤ topI) {j : Int} (j0 : 0 ≤ j) (j1 : j < kc + dot ρ 0 kl) :
    OkD (dmX D kc kl) (atX ρ (len D.bs) j) := by
  refine ⟨fun i b hb => ?_,fun f hf => ?_⟩
  · have hb : (D.bs ++ [(0,topI)])[i]? = some b := hb
    by_cases hi : i < D.bs.length
    · rw [List.getElem?_append_left hi] at hb
      have e : atX ρ (len D.bs) j i = ρ i := by unfold atX; rw [if_neg (by rw [len_eq]; omega)]
      rw [e]; exact hD.1 i b hb
    · rw [List.getElem?_append_right (by omega)] at hb
      have hi2 : i = D.bs.length := by
        have := (List.getElem?_eq_some_iff.1 hb).1
        simp at this; omega
      subst hi2
      simp at hb; subst hb
      have e : atX ρ (len D.bs) j D.bs.length = j := by unfold atX; rw [if_pos (by rw [len_eq])]
      rw [e]; exact ⟨j0,by show j ≤ topI; omega⟩
  · have hf : f ∈ D.fs ++ [(kc - 1,addL kl (negL (unitL (len D.bs))))] := hf
    rcases List.mem_append.1 hf with hf|hf
    · have := hD.2 f hf
      rw [dot_at (allB_inv h8 f hf)]; exact this
    · simp at hf; subst hf
      show 0 ≤ kc - 1 + dot (atX ρ (len D.bs) j) 0 (addL kl (negL (unitL (len D.bs))))
      rw [dot_add,dot_neg,dot_at h7,dot_unit]
      have : atX ρ (len D.bs) j (0 + len D.bs) = j := by unfold atX; rw [if_pos (by omega)]
      rw [this]; omega
theorem mainA_ok (hD : OkD D ρ) (hcx : ∀ ρ' Dx,OkD Dx ρ' → CallOk ρ' P (cx Dx)) (hdr : ∀ ρ' Dx,OkD Dx ρ' → DrawOk ρ' P Dx) {h : LHint}{body : Code}{env : Env}{nx : Nat}{H : Heap}{nr : List Nat}{n : Nat}{l : List MV}{now : MV}{yes : Env → Heap → Bool}
    (hn : look H n = some (.cells l)) (hnow : l[h.ci]? = some now) (hm : mainA P D cx h body env nx H nr n l now yes = true) :
    ∃ env' H',yes env' H' = true ∧ Suf H H' ∧ ∀ c,roomC c.nt body = true → JumpOk ρ P c body nx env H env' H' := by
  obtain ⟨es,e1,hm⟩ := ob_inv hm
  obtain ⟨hs,e2,hm⟩ := ob_inv hm
  obtain ⟨iv,e3,hm⟩ := ob_inv hm
  obtain ⟨ic,il,hm,hiv⟩ := sumK_inv hm
  obtain ⟨nc,nl,hm,hnv⟩ := sumK_inv hm
  obtain ⟨hfin,hm⟩ := oc_inv hm
  obtain ⟨lg,g1,hm⟩ := ob_inv hm
  obtain ⟨lw,g2,hm⟩ := ob_inv hm
  obtain ⟨le,g3,hm⟩ := ob_inv hm
  obtain ⟨hrun,hyes⟩ := oc_inv hm
  rw [fV_eq] at hyes
  obtain ⟨f1,hfin⟩ := oc_inv hfin
  obtain ⟨f2,hfin⟩ := oc_inv hfin
  obtain ⟨f3,hfin⟩ := oc_inv hfin
  obtain ⟨f4,hfin⟩ := oc_inv hfin
  obtain ⟨f5,hfin⟩ := oc_inv hfin
  obtain ⟨f6,hfin⟩ := oc_inv hfin
  obtain ⟨f7,hfin⟩ := oc_inv hfin
  obtain ⟨f8,f9⟩ := oc_inv hfin
  obtain ⟨o9,f9⟩ := someB_inv f9
  have e9 := pickH_ok e2 n o9 f9
  rw [hn] at e9; cases e9
  have hK0 := ge0_ok hD f1
  have hK1 : h.kc + dot ρ 0 h.kl ≤ topI := by
    have := ge0_ok hD f2
    rw [dot_neg] at this; omega
  have lowl : ∀ {ρ' ρ'' : Nat → Int}{φ : Nat → Ph}{nx : Nat},(∀ l : List Int,Nat.ble (len l) (len D.bs) = true → dot ρ' 0 l = dot ρ'' 0 l) → ∀ x ∈ l,Alike ρ' φ nx ρ'' x x := fun hh x hx =>
    low_alike hh x (allB_inv (show allB (lowV (len D.bs)) l = true from allB_inv f4 _ (look_mem f9)) x hx)
  have lows : ∀ {ρ' ρ'' : Nat → Int}{φ : Nat → Ph}{nx : Nat}{m : Nat}{o : MO},(∀ l : List Int,Nat.ble (len l) (len D.bs) = true → dot ρ' 0 l = dot ρ'' 0 l) → look hs m = some o → AlikeO ρ' φ nx ρ'' o o := fun hh hm => lowO_alike hh (allB_inv f4 _ (look_mem hm))
  have lowe : ∀ {ρ' ρ'' : Nat → Int}{φ : Nat → Ph}{nx : Nat}{k : Nat}{x : MV},(∀ l : List Int,Nat.ble (len l) (len D.bs) = true → dot ρ' 0 l = dot ρ'' 0 l) → look es k = some x → Alike ρ' φ nx ρ'' x x := fun hh hm => low_alike hh _ (allB_inv f3 _ (look_mem hm))
  have atat : ∀ (j j' : Int) (l : List Int),Nat.ble (len l) (len D.bs) = true → dot (atX ρ (len D.bs) j) 0 l = dot (atX ρ (len D.bs) j') 0 l := fun j j' l hl => at_at l hl
  have atl : ∀ (j : Int) (l : List Int),Nat.ble (len l) (len D.bs) = true → dot (atX ρ (len D.bs) j) 0 l = dot ρ 0 l := fun j l hl => dot_at hl
  have round : ∀ (j : Int),0 ≤ j → j < h.kc + dot ρ 0 h.kl → ∀ c',roomC c'.nt body = true → ∀ φ tmps w,St (atX ρ (len D.bs) j) c' nx ((h.cnt,shV ic il (len D.bs)) :: es) ((n,.cells lg) :: hs) φ tmps w → ∀ (b : Frame) (k : List Item) (cs : List Frame),
      ∃ φ' tmps' w',St (atX ρ (len D.bs) (j + 1)) c' nx ((h.cnt,shV ic il (len D.bs)) :: es) ((n,.cells lg) :: hs) φ' tmps' w' ∧ Steps P (lone (b.at (act tmps) (.code body :: .inLoop body :: k)) cs w) (lone (b.at (act tmps') (.code body :: .inLoop body :: k)) cs w') := by
    intro j j0 j1 c' hr φ tmps w hS b k cs
    have hDx := dmX_ok hD f7 f8 hK1 j0 j1
    obtain ⟨x,env',nx',H',k1,_,k3⟩ := codeF_ok hDx (hdr _ _ hDx) (hcx _ _ hDx) body _ _ _ _ hrun
    cases x with
    | exit i => cases (show false = true from k1)
    | ret => cases (show false = true from k1)
    | normal =>
      obtain ⟨q1,q⟩ := oc_inv k1
      obtain ⟨q2,q3⟩ := oc_inv q
      have q1 := Nat.eq_of_beq_eq_true q1
      subst q1
      obtain ⟨e,a1,w1,⟨rfl,hd,φ',hs'⟩,harr⟩ := k3 c' hr φ tmps w hS b (.inLoop body :: k) cs
      have hsub : St (atX ρ (len D.bs) j) c' nx' env' (selG H' (hs.map (·.1))) φ' a1.tmps w1 := hs'.sub (fun m o hm _ => by
        rw [look_selG] at hm
        split at hm
        · exact hm
        · cases hm) fun m hm => by
        rw [look_selG] at hm
        split at hm
        · exact (hs'.ok.obj m _ hm).1
        · cases hm
      have hobj : ∀ m o0,look hs m = some o0 → ∃ o o',look ((n,.cells lg) :: hs) m = some o ∧ look H' m = some o' ∧ ∀ φ nx,AlikeO (atX ρ (len D.bs) (j + 1)) φ nx (atX ρ (len D.bs) j) o o' := by
        intro m o0 hm
        obtain ⟨o',a1,b1⟩ := ob_inv (allB_inv q3 _ (look_mem hm))
        obtain ⟨ww,b2,b3⟩ := ob_inv b1
        rw [look_cons] at b2
        by_cases e : n = m
        · rw [if_pos e] at b2; cases b2
          refine ⟨_,o',by rw [look_cons,if_pos e],a1,fun φ nx => (put_alike g1 g2 (lowl (atat _ _)) fun u => ?_).trans (eqO_ok b3).symm⟩
          rw [shV,shV,int_rel,int_rel,dot_sh f6,dot_sh f6,show nc + dot ρ 0 nl + (j + 1) = nc + 1 + dot ρ 0 nl + j by omega]
        · rw [if_neg e,hm] at b2; cases b2
          exact ⟨o0,o',by rw [look_cons,if_neg e]; exact hm,a1,fun φ nx => (lows (atat _ _) hm).trans (eqO_ok b3).symm⟩
      have hkey : ∀ m o,look ((n,.cells lg) :: hs) m = some o → ∃ o0,look hs m = some o0 := by
        intro m o hm
        rw [look_cons] at hm
        by_cases e : n = m
        · subst e; exact ⟨_,f9⟩
        · rw [if_neg e] at hm; exact ⟨o,hm⟩
      refine ⟨φ',a1.tmps,w1,hsub.alike (fun kk x' hk => ?_) ⟨fun m o hm => ?_,fun m o' hm => ?_⟩, ?_⟩
      · rw [look_cons] at hk
        by_cases e : h.cnt = kk
        · rw [if_pos e] at hk; cases hk
          obtain ⟨x,a,b2⟩ := ob_inv (allB_inv q2 (h.cnt,shV (ic + 1) il (len D.bs)) List.mem_cons_self)
          refine ⟨x,by rw [← e]; exact a,fun φ nx => Alike.trans (fun u => ?_) (eqV_ok _ _ b2).symm⟩
          rw [shV,shV,int_rel,int_rel,dot_sh f5,dot_sh f5,show ic + dot ρ 0 il + (j + 1) = ic + 1 + dot ρ 0 il + j by omega]
        · rw [if_neg e] at hk
          obtain ⟨x,a,b2⟩ := ob_inv (allB_inv q2 (kk,x') (List.mem_cons_of_mem _ (look_mem hk)))
          exact ⟨x,a,fun φ nx => Alike.trans (lowe (atat _ _) hk) (eqV_ok _ _ b2).symm⟩
      · obtain ⟨o0,hm0⟩ := hkey m o hm
        obtain ⟨o1,o',a,b2,d⟩ := hobj m o0 hm0
        rw [hm] at a; cases a
        exact ⟨o',by rw [look_selG,if_pos (mem_keys.2 ⟨o0,hm0⟩)]; exact b2,d⟩
      · rw [look_selG] at hm
        split at hm
        · rename_i hmem
          obtain ⟨o0,hm0⟩ := mem_keys.1 hmem
          obtain ⟨o1,o2,a,b2,d⟩ := hobj m o0 hm0
          rw [hm] at b2; cases b2
          exact ⟨o1,a,d⟩
        · cases hm
      · rw [← actE hd]
        exact Steps.trans harr (.one step_inLoop)
  have rounds : ∀ (m : Nat),(m : Int) ≤ h.kc + dot ρ 0 h.kl → ∀ c',roomC c'.nt body = true → ∀ φ tmps w,St (atX ρ (len D.bs) 0) c' nx ((h.cnt,shV ic il (len D.bs)) :: es) ((n,.cells lg) :: hs) φ tmps w → ∀ (b : Frame) (k : List Item) (cs : List Frame),
      ∃ φ' tmps' w',St (atX ρ (len D.bs) m) c' nx ((h.cnt,shV ic il (len D.bs)) :: es) ((n,.cells lg) :: hs) φ' tmps' w' ∧ Steps P (lone (b.at (act tmps) (.code body :: .inLoop body :: k)) cs w) (lone (b.at (act tmps') (.code body :: .inLoop body :: k)) cs w') := by
    intro m
    induction m with
    | zero => intro _ c' hr φ tmps w hS b k cs; exact ⟨φ,tmps,w,hS,.refl P _⟩
    | succ m ih =>
      intro hm c' hr φ tmps w hS b k cs
      obtain ⟨φ1,t1,w1,s1,p1⟩ := ih (by omega) c' hr φ tmps w hS b k cs
      obtain ⟨φ2,t2,w2,s2,p2⟩ := round m (by omega) (by omega) c' hr φ1 t1 w1 s1 b k cs
      exact ⟨φ2,t2,w2,by rw [show ((m + 1 : Nat) : Int) = (m : Int) + 1 by omega]; exact s2,p1.trans p2⟩
  refine ⟨_,_,hyes,⟨[_],rfl⟩,fun c hr φ tmps w hst b k cs => ?_⟩
  have hes : ∀ kk x,look ((h.cnt,iv) :: es) kk = some x → look env kk = some x := fun kk x hk => by
    rw [look_cons] at hk
    by_cases e : h.cnt = kk
    · rw [if_pos e] at hk; cases hk; rw [← e]; exact e3
    · rw [if_neg e] at hk; exact pickE_ok e1 kk x hk
  have p0 : St ρ (c.part w φ hs nx) nx ((h.cnt,iv) :: es) hs φ tmps w := hst.part (pickH_ok e2) (fun kk x hk => by
    obtain ⟨u,_,u2⟩ := hst.env kk x (hes kk x hk)
    exact ⟨hes kk x hk,u2.has⟩) fun m o hm => by
    obtain ⟨a,b⟩ := hst.ok.obj m o (pickH_ok e2 m o hm)
    exact ⟨a,b.has⟩
  have s0 : St (atX ρ (len D.bs) 0) (c.part w φ hs nx) nx ((h.cnt,shV ic il (len D.bs)) :: es) ((n,.cells lg) :: hs) φ tmps w := by
    refine p0.alike (fun kk x' hk => ?_) ⟨fun m o hm => ?_,fun m o hm => ?_⟩
    · rw [look_cons] at hk
      by_cases e : h.cnt = kk
      · rw [if_pos e] at hk; cases hk
        refine ⟨iv,by rw [look_cons,if_pos e],fun φ nx u => ?_⟩
        rw [hiv,shV,int_rel,dot_sh f5,Int.add_zero]
      · rw [if_neg e] at hk
        exact ⟨x',by rw [look_cons,if_neg e]; exact hk,fun φ nx => lowe (atl _) hk⟩
    · rw [look_cons] at hm
      by_cases e : n = m
      · rw [if_pos e] at hm; cases hm
        refine ⟨_,by rw [← e]; exact f9,fun φ nx => put_self g1 hnow (lowl (atl _)) fun u => ?_⟩
        rw [hnv,shV,int_rel,dot_sh f6,Int.add_zero]
      · rw [if_neg e] at hm; exact ⟨o,hm,fun φ nx => lows (atl _) hm⟩
    · by_cases e : n = m
      · subst e
        rw [f9] at hm; cases hm
        refine ⟨_,by rw [look_cons,if_pos rfl],fun φ nx => put_self g1 hnow (lowl (atl _)) fun u => ?_⟩
        rw [hnv,shV,int_rel,dot_sh f6,Int.add_zero]
      · exact ⟨o,by rw [look_cons,if_neg e]; exact hm,fun φ nx => lows (atl _) hm⟩
  obtain ⟨φ',tmps',w',s1,p1⟩ := rounds (h.kc + dot ρ 0 h.kl).toNat (by omega) (c.part w φ hs nx) hr φ tmps w s0 b k cs
  rw [show (((h.kc + dot ρ 0 h.kl).toNat : Nat) : Int) = h.kc + dot ρ 0 h.kl by omega] at s1
  have la : ∀ (l : List Int),Nat.ble (len l) (len D.bs) = true → dot ρ 0 l = dot (atX ρ (len D.bs) (h.kc + dot ρ 0 h.kl)) 0 l := fun l hl => (dot_at hl).symm
  have s2 : St ρ (c.part w φ hs nx) nx ((h.cnt,mk .i64 (ic + h.kc) (addL il h.kl)) :: es) ((n,.cells le) :: hs) φ' tmps' w' := by
    refine s1.alike (fun kk x' hk => ?_) ⟨fun m o hm => ?_,fun m o hm => ?_⟩
    · rw [look_cons] at hk
      by_cases e : h.cnt = kk
      · rw [if_pos e] at hk; cases hk
        refine ⟨shV ic il (len D.bs),by rw [look_cons,if_pos e],fun φ nx u => ?_⟩
        rw [mk_iff,shV,int_rel,dot_sh f5,dot_add,show ic + h.kc + (dot ρ 0 il + dot ρ 0 h.kl) = ic + dot ρ 0 il + (h.kc + dot ρ 0 h.kl) by omega]
      · rw [if_neg e] at hk
        exact ⟨x',by rw [look_cons,if_neg e]; exact hk,fun φ nx => lowe la hk⟩
    · rw [look_cons] at hm
      by_cases e : n = m
      · rw [if_pos e] at hm; cases hm
        refine ⟨_,by rw [look_cons,if_pos e],fun φ nx => put_alike g3 g1 (lowl la) fun u => ?_⟩
        rw [mk_iff,shV,int_rel,dot_sh f6,dot_add,show nc + h.kc + (dot ρ 0 nl + dot ρ 0 h.kl) = nc + dot ρ 0 nl + (h.kc + dot ρ 0 h.kl) by omega]
      · rw [if_neg e] at hm; exact ⟨o,by rw [look_cons,if_neg e]; exact hm,fun φ nx => lows la hm⟩
    · rw [look_cons] at hm
      by_cases e : n = m
      · rw [if_pos e] at hm; cases hm
        refine ⟨_,by rw [look_cons,if_pos e],fun φ nx => put_alike g3 g1 (lowl la) fun u => ?_⟩
        rw [mk_iff,shV,int_rel,dot_sh f6,dot_add,show nc + h.kc + (dot ρ 0 nl + dot ρ 0 h.kl) = nc + dot ρ 0 nl + (h.kc + dot ρ 0 h.kl) by omega]
      · rw [if_neg e] at hm; exact ⟨o,by rw [look_cons,if_neg e]; exact hm,fun φ nx => lows la hm⟩
  refine ⟨φ',tmps',w',hst.join (pickH_ok e2) s2 fun m o hm => ?_,p1⟩
  rw [look_cons] at hm
  by_cases e : n = m
  · rw [if_pos e] at hm; exact .inl (by rw [look_cons,if_pos e]; exact hm)
  · rw [if_neg e] at hm
    cases hq : look hs m with
    | none => exact .inr ⟨hm,rfl⟩
    | some o1 =>
      have := pickH_ok e2 m o1 hq
      rw [hm] at this; cases this
      exact .inl (by rw [look_cons,if_neg e]; exact hq)
theorem accA_ok (hD : OkD D ρ) (hcx : ∀ ρ' Dx,OkD Dx ρ' → CallOk ρ' P (cx Dx)) (hdx : ∀ ρ' Dx,OkD Dx ρ' → DrawOk ρ' P Dx) {h : LHint}{body : Code}{env : Env}{nx : Nat}{H : Heap}{yes : Env → Heap → Bool}{no : Bool} (hm : accA P D cx h body env nx H yes no = true) :
    no = true ∨ ∃ env' H',yes env' H' = true ∧ Suf H H' ∧ ∀ c,roomC c.nt body = true → JumpOk ρ P c body nx env H env' H' := by
  unfold accA at hm
  cases h1 : look env h.p with
  | none => rw [h1] at hm; exact .inl hm
  | some pv =>
    rw [h1] at hm
    dsimp only at hm
    cases h2 : nameV pv with
    | none => rw [h2] at hm; exact .inl hm
    | some n =>
      rw [h2] at hm
      dsimp only at hm
      cases h3 : look H n with
      | none => rw [h3] at hm; exact .inl hm
      | some o =>
        rw [h3] at hm
        cases o with
        | map es => exact .inl hm
        | dead => exact .inl hm
        | cells l =>
          dsimp only at hm
          cases h4 : nth l h.ci with
          | none => rw [h4] at hm; exact .inl hm
          | some now =>
            rw [h4] at hm
            rcases ow_inv (show ow (eqV h.start now) (ob (findN [pv] H h.src [] 0) fun nr => mainA P D cx h body env nx H nr n l now yes) no = true from hm) with ⟨_,hm⟩|⟨_,hm⟩
            · obtain ⟨nr,_,hm⟩ := ob_inv hm
              rw [nth_eq] at h4
              exact .inr (mainA_ok hD hcx hdx h3 h4 hm)
            · exact .inl hm
theorem tryA_ok (hD : OkD D ρ) (hcx : ∀ ρ' Dx,OkD Dx ρ' → CallOk ρ' P (cx Dx)) (hdx : ∀ ρ' Dx,OkD Dx ρ' → DrawOk ρ' P Dx) {body : Code}{env : Env}{nx : Nat}{H : Heap}{yes : Env → Heap → Bool}{no : Bool} : ∀ {hs : List LHint},tryA P D cx hs body env nx H yes no = true →
    no = true ∨ ∃ env' H',yes env' H' = true ∧ Suf H H' ∧ ∀ c,roomC c.nt body = true → JumpOk ρ P c body nx env H env' H'
  | [],hm => .inl hm
  | h :: hs,hm => by
    rcases ow_inv (show ow (Nat.beq (firstR body) h.reg) (accA P D cx h body env nx H yes (tryA P D cx hs body env nx H yes no)) (tryA P D cx hs body env nx H yes no) = true from hm) with ⟨_,hm⟩|⟨_,hm⟩
    · rcases accA_ok hD hcx hdx hm with hm|hm
      · exact tryA_ok hD hcx hdx hm
      · exact .inr hm
    · exact tryA_ok hD hcx hdx hm
theorem loopA_ok (hD : OkD D ρ) (hcx : ∀ ρ' Dx,OkD Dx ρ' → CallOk ρ' P (cx Dx)) (hdx : ∀ ρ' Dx,OkD Dx ρ' → DrawOk ρ' P Dx) {f : CoF}{body : Code}{hints : List LHint} (hf : CodeOk ρ P f body) : ∀ {n : Nat} {env nx H}{k : KC},mLoopAN P D cx hints body f n env nx H k = true →
    ∃ x env' nx' H',k x env' nx' H' = true ∧ Suf H H' ∧ ∀ (c : Ctx),roomC c.nt body = true → LW ρ P c body env nx H x env' nx' H'
  | 0,env,nx,H,k,h => by cases (show false = true from h)
  | n + 1,env,nx,H,k,h => by
    have core : ∀ env1 H1,f env1 nx H1 (seqK (mLoopAN P D cx hints body f n) k) = true → ∃ x env' nx' H',k x env' nx' H' = true ∧ Suf H1 H' ∧ ∀ (c : Ctx),roomC c.nt body = true → LW ρ P c body env1 nx H1 x env' nx' H' := by
      intro env0 H0 h
      obtain ⟨x,env1,nx1,H1,h1,h2,h3⟩ := hf _ _ _ _ h
      cases x with
      | normal =>
        obtain ⟨y,env2,nx2,H2,k1,k2,k3⟩ := loopA_ok hD hcx hdx hf (show mLoopAN P D cx hints body f n env1 nx1 H1 k = true from h1)
        refine ⟨y,env2,nx2,H2,k1,h2.trans k2,fun c hr φ tmps w hs b kk cs => ?_⟩
        obtain ⟨e,a1,w1,⟨rfl,hd,φ',hs'⟩,harr⟩ := h3 c hr φ tmps w hs b (.inLoop body :: kk) cs
        obtain ⟨e2,a2,w2,q2,harr2⟩ := k3 c hr φ' a1.tmps w1 hs' b kk cs
        rw [← actE hd] at harr2
        exact ⟨e2,a2,w2,q2,.of_steps (Steps.trans harr (.one step_inLoop)) harr2⟩
      | exit i =>
        refine ⟨.exit i,env1,nx1,H1,h1,h2,fun c hr φ tmps w hs b kk cs => ?_⟩
        obtain ⟨e,a1,w1,⟨rfl,hd,φ',hs'⟩,harr⟩ := h3 c hr φ tmps w hs b (.inLoop body :: kk) cs
        exact ⟨_,a1,w1,⟨rfl,hd,φ',hs'⟩,.pass (x := .inLoop body) rfl (fun _ _ => .inl (by simp [Ex.to])) harr⟩
      | ret =>
        refine ⟨.ret,env1,nx1,H1,h1,h2,fun c hr φ tmps w hs b kk cs => ?_⟩
        obtain ⟨e,a1,w1,⟨rfl,hd,φ',hs'⟩,harr⟩ := h3 c hr φ tmps w hs b (.inLoop body :: kk) cs
        exact ⟨_,a1,w1,⟨rfl,hd,φ',hs'⟩,.pass (x := .inLoop body) rfl (fun _ _ => .inl (by simp [Ex.to])) harr⟩
    rcases tryA_ok hD hcx hdx (show tryA P D cx hints body env nx H (fun env' H' => f env' nx H' (seqK (mLoopAN P D cx hints body f n) k)) (f env nx H (seqK (mLoopAN P D cx hints body f n) k)) = true from h) with h|⟨env1,H1,h,hsuf,hj⟩
    · exact core env H h
    · obtain ⟨x,env',nx',H',a,b,d⟩ := core env1 H1 h
      refine ⟨x,env',nx',H',a,hsuf.trans b,fun c hr φ tmps w hst bb kk cs => ?_⟩
      obtain ⟨φ1,t1,w1,s1,p1⟩ := hj c hr φ tmps w hst bb kk cs
      obtain ⟨e,a',w',q,harr⟩ := d c hr φ1 t1 w1 s1 bb kk cs
      exact ⟨e,a',w',q,.of_steps p1 harr⟩
theorem codeA_ok (hD : OkD D ρ) (hcx : ∀ ρ' Dx,OkD Dx ρ' → CallOk ρ' P (cx Dx)) (hdx : ∀ ρ' Dx,OkD Dx ρ' → DrawOk ρ' P Dx) (hdr : DrawOk ρ P D) {call : CallK} (hc : CallOk ρ P call) (hints : List LHint) : ∀ (code : Code),CodeOk ρ P (codeA P D cx call hints code) code
  | .skip => fun env nx H k h => ⟨.normal,env,nx,H,h,Suf.refl H,fun c _ φ tmps w hs => wp_skip ⟨rfl,rfl,φ,hs⟩⟩
  | .region id ops false => fun env nx H k h => by
    obtain ⟨env',nx',H',h1,h2,h3⟩ := opsF_ok hD hc (show opsF P D call ops ops.toList env nx H k = true from h)
    exact ⟨.normal,env',nx',H',h1,h2,fun c hr φ tmps w hs => wp_region_list (h3 c hr _ (fun φ tmps w hs => ⟨rfl,rfl,φ,hs⟩) φ tmps w hs)⟩
  | .region id ops true => fun env nx H k h => by
    obtain ⟨env',nx',H',h1,h2,h3⟩ := hdr hc (show drawF P D call ops env nx H k = true from h)
    exact ⟨.normal,env',nx',H',h1,h2,fun c hr => h3 c id hr⟩
  | .seq a b => seq_ok (codeA_ok hD hcx hdx hdr hc hints a) (codeA_ok hD hcx hdx hdr hc hints b)
  | .cond x t e => fun env nx H k h => by
    obtain ⟨v,h1,h⟩ := ob_inv (show ob (ev env x) (fun v => onB v (codeA P D cx call hints t env nx H k) (codeA P D cx call hints e env nx H k)) = true from h)
    have room : ∀ {nt : Nat},roomC nt (.cond x t e) = true → roomC nt t = true ∧ roomC nt e = true := fun hr => oc_inv hr
    have ev' : ∀ {c φ tmps w b},St ρ c nx env H φ tmps w → v = .b b → (act tmps).eval x = .bool b := fun hs e1 => by
      have := ev_rel hs h1
      rw [e1] at this
      generalize (act _).eval x = y at this
      cases this; rfl
    rcases onB_inv h with ⟨e1,h⟩|⟨e1,h⟩
    · obtain ⟨y,env',nx',H',k1,k2,k3⟩ := codeA_ok hD hcx hdx hdr hc hints t _ _ _ _ h
      exact ⟨y,env',nx',H',k1,k2,fun c hr φ tmps w hs => wp_cond (ev' hs e1) (k3 c (room hr).1 φ tmps w hs)⟩
    · obtain ⟨y,env',nx',H',k1,k2,k3⟩ := codeA_ok hD hcx hdx hdr hc hints e _ _ _ _ h
      exact ⟨y,env',nx',H',k1,k2,fun c hr φ tmps w hs => wp_cond (ev' hs e1) (k3 c (room hr).2 φ tmps w hs)⟩
  | .block id body => fun env nx H k h => by
    obtain ⟨x,env1,nx1,H1,h1,h2,h3⟩ := codeA_ok hD hcx hdx hdr hc hints body _ _ _ _ (show codeA P D cx call hints body env nx H (blockK id k) = true from h)
    cases x with
    | normal =>
      refine ⟨.normal,env1,nx1,H1,h1,h2,fun c hr φ tmps w hs => wp_block (Code.wp_mono (fun e a' w' hp => ?_) (h3 c hr φ tmps w hs))⟩
      obtain ⟨rfl,hd⟩ := hp
      exact ⟨rfl,hd⟩
    | ret =>
      refine ⟨.ret,env1,nx1,H1,h1,h2,fun c hr φ tmps w hs => wp_block (Code.wp_mono (fun e a' w' hp => ?_) (h3 c hr φ tmps w hs))⟩
      obtain ⟨rfl,hd⟩ := hp
      exact ⟨rfl,hd⟩
    | exit i =>
      rcases ow_inv (show ow (Nat.beq i id) (k .normal env1 nx1 H1) (k (.exit i) env1 nx1 H1) = true from h1) with ⟨e1,h1⟩|⟨e1,h1⟩
      · have e1 := Nat.eq_of_beq_eq_true e1
        refine ⟨.normal,env1,nx1,H1,h1,h2,fun c hr φ tmps w hs => wp_block (Code.wp_mono (fun e a' w' hp => ?_) (h3 c hr φ tmps w hs))⟩
        obtain ⟨rfl,hd⟩ := hp
        show (if i = id then PostB ρ c .normal env1 nx1 H1 .normal a' w' else _)
        rw [if_pos e1]
        exact ⟨rfl,hd⟩
      · have e1 : i ≠ id := fun e => by rw [e,Nat.beq_refl] at e1; cases e1
        refine ⟨.exit i,env1,nx1,H1,h1,h2,fun c hr φ tmps w hs => wp_block (Code.wp_mono (fun e a' w' hp => ?_) (h3 c hr φ tmps w hs))⟩
        obtain ⟨rfl,hd⟩ := hp
        show (if i = id then _ else PostB ρ c (.exit i) env1 nx1 H1 (.exit i) a' w')
        rw [if_neg e1]
        exact ⟨rfl,hd⟩
  | .loop body => fun env nx H k h => by
    obtain ⟨x,env',nx',H',h1,h2,h3⟩ := loopA_ok hD hcx hdx (codeA_ok hD hcx hdx hdr hc hints body) (show mLoopAN P D cx hints body (codeA P D cx call hints body) rounds env nx H k = true from h)
    refine ⟨x,env',nx',H',h1,h2,fun c hr φ tmps w hst b kk cs => ?_⟩
    obtain ⟨e,a',w',hq,harr⟩ := h3 c hr φ tmps w hst b kk cs
    exact ⟨e,a',w',hq,.of_steps (.one step_loop) harr⟩
  | .exit id => fun env nx H k h => ⟨.exit id,env,nx,H,h,Suf.refl H,fun c _ φ tmps w hs => wp_exit ⟨rfl,rfl,φ,hs⟩⟩
  | .ret => fun env nx H k h => ⟨.ret,env,nx,H,h,Suf.refl H,fun c _ φ tmps w hs => wp_ret ⟨rfl,rfl,φ,hs⟩⟩
  | .rangeFunc .. => fun env nx H k h => by cases (show false = true from h)
  | .scope .. => fun env nx H k h => by cases (show false = true from h)
  | .label .. => fun env nx H k h => by cases (show false = true from h)
  | .goto .. => fun env nx H k h => by cases (show false = true from h)
  | .refuse .. => fun env nx H k h => by cases (show false = true from h)
theorem stepA_ok (hD : OkD D ρ) (hcx : ∀ ρ' Dx,OkD Dx ρ' → CallOk ρ' P (cx Dx)) (hdx : ∀ ρ' Dx,OkD Dx ρ' → DrawOk ρ' P Dx) (hdr : DrawOk ρ P D) {call : CallK} (hc : CallOk ρ P call) (ls : LHs) : CallOk ρ P (stepA P D cx call ls) := fun {g args nx H k} h => by
  have h : (List.rec (motive := fun _ => Bool) (stepF P D call g args nx H k) (fun _ _ _ => ob (tfun P g) fun r => oc (Nat.ble (len args) r.1) (codeA P D cx call (lhOf ls g) r.2.1 (argE args 0) nx H (finK P r.2.2 k))) (lhOf ls g) : Bool) = true := h
  by_cases hnil : lhOf ls g = []
  · rw [hnil] at h; exact stepF_ok hD hdr hc h
  obtain ⟨hh,tt,hcons⟩ := List.exists_cons_of_ne_nil hnil
  have h : ob (tfun P g) (fun r => oc (Nat.ble (len args) r.1) (codeA P D cx call (lhOf ls g) r.2.1 (argE args 0) nx H (finK P r.2.2 k))) = true := by
    generalize hx : ob (tfun P g) (fun r => oc (Nat.ble (len args) r.1) (codeA P D cx call (lhOf ls g) r.2.1 (argE args 0) nx H (finK P r.2.2 k))) = X at h ⊢
    rw [hcons] at h; exact h
  obtain ⟨r,h1,h⟩ := ob_inv h
  obtain ⟨h2,h⟩ := oc_inv h
  obtain ⟨fn,f1,f2,f3,f4,f5,f6⟩ := tfun_some h1
  have hle := Nat.le_of_ble_eq_true h2
  rw [len_eq] at hle
  obtain ⟨x,env',nx',H',k1,k2,k3⟩ := codeA_ok hD hcx hdx hdr hc (lhOf ls g) r.2.1 _ _ _ _ h
  have fin : ∃ v,k v nx' H' = true ∧ (x = .ret ∨ x = .normal) ∧ ∀ {c φ tmps w},St ρ c nx' env' H' φ tmps w → ∃ u,(results fn tmps).run P w = .ok u w ∧ Rel ρ φ nx' v u := by
    cases x with
    | normal =>
      obtain ⟨xs,g1,g2⟩ := results_ok (ρ := ρ) (nx := nx') (fn := fn) (show resL P env' H' fn.results.toList (fun xs => k (packM xs) nx' H') = true by rw [f6]; exact k1)
      exact ⟨_,g1,.inr rfl,g2⟩
    | exit i => cases (show false = true from k1)
    | ret =>
      obtain ⟨xs,g1,g2⟩ := results_ok (ρ := ρ) (nx := nx') (fn := fn) (show resL P env' H' fn.results.toList (fun xs => k (packM xs) nx' H') = true by rw [f6]; exact k1)
      exact ⟨_,g1,.inl rfl,g2⟩
  obtain ⟨v,hk,hx,hres⟩ := fin
  refine ⟨v,nx',H',⟨⟨fn,f1,by rw [f2]; rfl,f3⟩,fun w φ vals hok hsz hargs => ?_⟩,hk,k2⟩
  let c : Ctx := { w0 := w,O0 := Own φ H,k := nx,φ0 := φ,nt := fn.ntmps }
  refine calls_of_wp f1 f2 ?_
  have hst : St ρ c nx (argE args 0) H φ (vals ++ Array.replicate (fn.ntmps - vals.size) undef) w := by
    refine ⟨hok,fun n a hk => ?_,Ext.refl _ _,⟨Nat.le_refl _,fun n _ => rfl⟩,by show (vals ++ Array.replicate (fn.ntmps - vals.size) undef).size = fn.ntmps; simp; omega⟩
    rw [look_argE] at hk
    simp only [Nat.zero_le,if_true,Nat.sub_zero] at hk
    have hlt : n < vals.size := by rw [hsz]; exact (List.getElem?_eq_some_iff.1 hk).1
    exact ⟨vals[n],by rw [Array.getElem?_append,if_pos hlt]; simp [hlt],hargs n a vals[n] hk (by simp [hlt])⟩
  refine Code.wp_mono (fun e a w' hp => ?_) (k3 c (by show roomC fn.ntmps r.2.1 = true; rw [f4]; exact f5) φ _ w hst)
  obtain ⟨rfl,hd,φ',hs'⟩ := hp
  obtain ⟨u,u1,u2⟩ := hres hs'
  have key : a.defers = [] ∧ ∃ v',(results fn a.tmps).run P w' = .ok v' w' ∧ ∃ φ' v'',Ending.returned v' = .returned v'' ∧ Ok ρ φ' nx' H' w' ∧ Rel ρ φ' nx' v v'' ∧ Ext w w' (Own φ H) (Own φ' H') ∧ nx ≤ nx' ∧ ∀ n,n < nx → φ' n = φ n :=
    ⟨hd,u,u1,φ',u,rfl,hs'.ok,u2,hs'.ext,hs'.keep.1,hs'.keep.2⟩
  rcases hx with rfl|rfl
  · exact key
  · exact key
theorem gcdraw (hm : P.follows .mixedOrders = true) : ∀ ρ' Dx,OkD Dx ρ' → DrawOk ρ' P Dx := fun _ _ h => drawOk hm h
theorem runZ_ok (hm : P.follows .mixedOrders = true) (hD : OkD D ρ) {fs : List PFact} (hfs : PFactsOk ρ P fs) {rs rx : TRs} (hrs : TRulesOk ρ P rs) (hrx : ∀ ρ',TRulesOk ρ' P rx) (ls : LHs) (gs : List Nat) : ∀ (n : Nat),CallOk ρ P (runZ P D fs rs rx ls gs n)
  | 0 => fun h => by cases (show false = true from h)
  | n + 1 => pfactsW_ok (tsW_ok hD hrs (gcW_ok (stepA_ok hD (fun ρ' Dx h => runY_ok hm h pfacts_nil (hrx ρ') [] 100) (gcdraw hm) (drawOk hm hD) (runZ_ok hm hD hfs hrs hrx ls gs n) ls) gs)) hfs
theorem truleZ_ok (hm : P.follows .mixedOrders = true) (hD : OkD D ρ) {fs : List PFact} (hfs : PFactsOk ρ P fs) {rs rx : TRs} (hrs : TRulesOk ρ P rs) (hrx : ∀ ρ',TRulesOk ρ' P rx) {ls : LHs}{gs : List Nat}{n : Nat}{r : TRule} (h : truleZ P D fs rs rx ls gs n r = true) : TRuleAt ρ P r := by
  obtain ⟨h1,h⟩ := oc_inv h
  obtain ⟨v,m',H',t,hk,_⟩ := runZ_ok hm hD hfs hrs hrx ls gs n h
  exact .of h1 t hk
theorem Ans.ofZ {P : Program} (hm : P.follows .mixedOrders = true) (hD : OkD D ρ) {fs : List PFact} (hfs : PFactsOk ρ P fs) {rs rx : TRs} (hrs : TRulesOk ρ P rs) (hrx : ∀ ρ',TRulesOk ρ' P rx) {ls : LHs}{gs : List Nat}{n g : Nat}{args : List MV}{x : MV}
    (h : runZ P D fs rs rx ls gs n g args 0 [] (fun v _ _ => eqV v x) = true) : Ans ρ P g args x := by
  obtain ⟨r,nx',H',t,hk,_⟩ := runZ_ok hm hD hfs hrs hrx ls gs n h
  have hH : ∀ H : Heap,AlikeH ρ ρ H H := fun H => ⟨fun n o hn => ⟨o,hn,fun φ nx => ⟨Iff.rfl,fun w n => Iff.rfl⟩⟩,fun n o hn => ⟨o,hn,fun φ nx => ⟨Iff.rfl,fun w n => Iff.rfl⟩⟩⟩
  exact ⟨nx',H',t.alike rfl (fun i a a' h1 h2 φ nx => by rw [h1] at h2; cases h2; exact fun u => Iff.rfl) (hH []) (fun φ nx => (eqV_ok r x hk).symm) (hH H')⟩
end
set_option maxRecDepth 100000
open Go.Proofs
theorem mixed : Tryz.prog.follows .mixedOrders = true := by kernel_rfl
noncomputable section
def D0 : Dm := ⟨[],[]⟩
end
noncomputable section
def rA1 : Rule := ⟨46,[.agg [.n .i64 72,.sl 5 91 0 1 (some 1)]],92,[(87,.cells [.n .i64 3,.n .i64 0,.n .i64 0,.n .i64 40,.n .i64 0,.n .i64 0,.n .i64 0,.n .i64 40]),(89,.cells [.n .i64 0,.n .i64 72]),(91,.cells [.n .i64 1,.n .u32 12812670,.n .i64 2,.sl 4 87 0 2 (some 2),.sl 2 89 0 1 (some 1)])],⟨[],[]⟩,.b true,[],[]⟩
def rA2 : Rule := ⟨11,[.ptr 95 0,.n .i64 1],180,[(87,.cells [.n .i64 3,.n .i64 0,.n .i64 0,.n .i64 40,.n .i64 0,.n .i64 0,.n .i64 0,.n .i64 40]),(89,.cells [.n .i64 0,.n .i64 72]),(91,.cells [.n .i64 1,.n .u32 12812670,.n .i64 2,.sl 4 87 0 2 (some 2),.sl 2 89 0 1 (some 1)]),(93,.cells [.v (.slice none 0 0),.n .i64 0]),(95,.cells [.n .i64 72,.sl 5 91 0 1 (some 1),.n .i64 0,.a .i64 0 [1],.v (.pointer none),.ptr 92 0,.sl 3 117 0 1 none,.ptr 93 0,.mp 94,.n .i64 0]),(115,.cells [.sl 3 179 0 1 none,.n .i64 2,.n .i64 0]),(117,.cells [.ptr 114 0,.ptr 115 0,.ptr 96 0])],⟨[(0,70)],[]⟩,.v (.slice none 0 0),[(95,.cells [.n .i64 72,.sl 5 91 0 1 (some 1),.n .i64 0,.a .i64 1 [1],.v (.pointer none),.ptr 92 0,.sl 3 117 0 1 none,.ptr 93 0,.mp 94,.n .i64 0])],[(95,3)]⟩
def rA3 : Rule := ⟨11,[.ptr 95 0,.n .i64 1],658,[(87,.cells [.n .i64 3,.n .i64 0,.n .i64 0,.n .i64 40,.n .i64 0,.n .i64 0,.n .i64 0,.n .i64 40]),(89,.cells [.n .i64 0,.n .i64 72]),(91,.cells [.n .i64 1,.n .u32 12812670,.n .i64 2,.sl 4 87 0 2 (some 2),.sl 2 89 0 1 (some 1)]),(93,.cells [.sl 3 657 0 1 none,.n .i64 1]),(95,.cells [.n .i64 72,.sl 5 91 0 1 (some 1),.n .i64 0,.a .i64 0 [1],.v (.pointer none),.ptr 92 0,.sl 3 117 0 1 none,.ptr 93 0,.mp 94,.n .i64 1]),(115,.cells [.sl 3 199 0 0 (some 0),.n .i64 2,.n .i64 0]),(117,.cells [.ptr 114 0,.ptr 115 0,.ptr 96 0]),(657,.cells [.n .i64 143,.n .i64 0,.n .i64 0])],⟨[(72,141)],[]⟩,.v (.slice none 0 0),[(95,.cells [.n .i64 72,.sl 5 91 0 1 (some 1),.n .i64 0,.a .i64 1 [1],.v (.pointer none),.ptr 92 0,.sl 3 117 0 1 none,.ptr 93 0,.mp 94,.n .i64 1])],[(95,3)]⟩
end
theorem rA1_ok : RuleOk Tryz.prog rA1 ∧ onceB rA1.out = true := ruleB_ok (gs := []) (n := 1000) mixed rules_nil (by kernel_rfl)
theorem rA2_ok : RuleOk Tryz.prog rA2 ∧ onceB rA2.out = true := ruleB_ok (gs := []) (n := 1000) mixed (rules_cons rA1_ok rules_nil) (by kernel_rfl)
theorem rA3_ok : RuleOk Tryz.prog rA3 ∧ onceB rA3.out = true := ruleB_ok (gs := []) (n := 1000) mixed (rules_cons rA1_ok rules_nil) (by kernel_rfl)
theorem okD0 (ρ : Nat → Int) : OkD D0 ρ := ⟨fun i b h => by simp [D0] at h,fun f h => by simp [D0] at h⟩
theorem awake_ans (ρ : Nat → Int) : Ans ρ Tryz.prog 14 [] (.b true) := Ans.of mixed (okD0 ρ) facts_nil (rules_cons rA1_ok (rules_cons rA2_ok (rules_cons rA3_ok rules_nil))) (gs := [6,23,17,11]) (n := 1000) (by kernel_rfl)
def clamp (x : Int) : Int := if x < 0 then 0 else if 100 < x then 100 else x
def vars (q g z : Int) (i : Nat) : Int := match i with|0 => q|1 => clamp g|2 => g|3 => z|_ => 0
noncomputable def dmn (q0 q1 g0 g1 z0 z1 : Int) : Dm := ⟨[(q0,q1),(0,100),(g0,g1),(z0,z1)],[]⟩
theorem clamp_in (g : Int) : 0 ≤ clamp g ∧ clamp g ≤ 100 := by unfold clamp; split <;> (try split) <;> omega
theorem okDmn {q g z q0 q1 g0 g1 z0 z1 : Int} (h1 : q0 ≤ q ∧ q ≤ q1) (h2 : g0 ≤ g ∧ g ≤ g1) (h3 : z0 ≤ z ∧ z ≤ z1) : OkD (dmn q0 q1 g0 g1 z0 z1) (vars q g z) := by
  refine ⟨fun i b hb => ?_,fun f hf => by simp [dmn] at hf⟩
  match i with
  | 0 => simp [dmn] at hb; subst hb; exact h1
  | 1 => simp [dmn] at hb; subst hb; exact clamp_in g
  | 2 => simp [dmn] at hb; subst hb; exact h2
  | 3 => simp [dmn] at hb; subst hb; exact h3
  | i + 4 => simp [dmn] at hb
noncomputable def gapF : Fact := ⟨21,[.a .i64 0 [0,0,1],.n .i64 0,.n .i64 100],.a .i64 0 [0,1]⟩
theorem same_args {ρ ρ' : Nat → Int}{args : List MV} (h : ∀ a ∈ args,∀ φ nx,Alike ρ φ nx ρ' a a) : ∀ (i : Nat) a a',args[i]? = some a → args[i]? = some a' → ∀ φ nx,Alike ρ φ nx ρ' a a' := fun i a a' h1 h2 => by
  rw [h1] at h2; cases h2; exact h a (List.mem_of_getElem? h1)
theorem gap_ok (q g z : Int) (hq : (-9223372036854775808) ≤ q ∧ q ≤ 9223372036854775807) (h : (-9223372036854775808) ≤ g ∧ g ≤ 9223372036854775807) (hz : (-9223372036854775808) ≤ z ∧ z ≤ 9223372036854775807) : FactOk (vars q g z) Tryz.prog gapF := by
  refine ⟨by kernel_rfl,by kernel_rfl, ?_⟩
  have same : ∀ {r : MV},Ans (vars q g z) Tryz.prog gapF.g gapF.args r → noneV r = true → (∀ φ nx,Alike (vars q g z) φ nx (vars q g z) gapF.res r) → Ans (vars q g z) Tryz.prog gapF.g gapF.args gapF.res :=
    fun h1 h2 h3 => h1.alike rfl (same_args fun a _ φ nx u => Iff.rfl) h3 h2
  by_cases h1 : g < 0
  · refine same (r := .n .i64 0) (Ans.of mixed (okDmn (q0 := (-9223372036854775808)) (q1 := 9223372036854775807) (g0 := (-9223372036854775808)) (g1 := -1) (z0 := (-9223372036854775808)) (z1 := 9223372036854775807) hq ⟨h.1,by omega⟩ hz) facts_nil rules_nil (gs := []) (n := 5) ?_) rfl fun φ nx u => ?_
    · kernel_rfl
    · rw [show gapF.res = MV.a .i64 0 [0,1] from rfl,int_rel,num_rel]; simp [dot,vars,clamp,h1]
  · by_cases h2 : 100 < g
    · refine same (r := .n .i64 100) (Ans.of mixed (okDmn (q0 := (-9223372036854775808)) (q1 := 9223372036854775807) (g0 := 101) (g1 := 9223372036854775807) (z0 := (-9223372036854775808)) (z1 := 9223372036854775807) hq ⟨by omega,h.2⟩ hz) facts_nil rules_nil (gs := []) (n := 5) ?_) rfl fun φ nx u => ?_
      · kernel_rfl
      · rw [show gapF.res = MV.a .i64 0 [0,1] from rfl,int_rel,num_rel]; simp [dot,vars,clamp,h1,h2]
    · refine same (r := .a .i64 0 [0,0,1]) (Ans.of mixed (okDmn (q0 := (-9223372036854775808)) (q1 := 9223372036854775807) (g0 := 0) (g1 := 100) (z0 := (-9223372036854775808)) (z1 := 9223372036854775807) hq ⟨by omega,by omega⟩ hz) facts_nil rules_nil (gs := []) (n := 5) ?_) rfl fun φ nx u => ?_
      · kernel_rfl
      · rw [show gapF.res = MV.a .i64 0 [0,1] from rfl,int_rel,int_rel]; simp [dot,vars,clamp,h1,h2]
noncomputable def awakeF : Fact := ⟨14,[],.b true⟩
theorem awakeF_ok (ρ : Nat → Int) : FactOk ρ Tryz.prog awakeF := ⟨by kernel_rfl,by kernel_rfl,awake_ans ρ⟩
theorem within256 {ρ : Nat → Int}{l : List Int}{n : Int} (hl : dot ρ 0 l = n) (hn : (-9223372036854775808) ≤ n ∧ n ≤ 9223372036854775807) {r : MV} (hr : ∀ φ nx u,Rel ρ φ nx r u ↔ u = .int .i64 (n % 256)) : Ans ρ Tryz.prog 15 [.a .i64 0 l,.n .i64 0,.n .i64 255] r := by
  have use : ∀ {ρ' : Nat → Int}{D : Dm}{l' : List Int}{r' : MV},OkD D ρ' → dot ρ' 0 l' = n → (∀ φ nx u,Rel ρ' φ nx r' u ↔ u = .int .i64 (n % 256)) → noneV r' = true → runX Tryz.prog D [] [] [] 5 15 [.a .i64 0 l',.n .i64 0,.n .i64 255] 0 [] (fun v _ _ => eqV v r') = true →
      Ans ρ Tryz.prog 15 [.a .i64 0 l,.n .i64 0,.n .i64 255] r := by
    intro ρ' D l' r' hD h1 h2 h3 h4
    refine (Ans.of mixed hD facts_nil rules_nil h4).alike rfl (fun i a a' e1 e2 φ nx => ?_) (fun φ nx u => (hr φ nx u).trans (h2 φ nx u).symm) h3
    match i with
    | 0 => simp at e1 e2; subst e1 e2; intro u; rw [int_rel,int_rel,hl,h1]
    | 1 => simp at e1 e2; subst e1 e2; intro u; rw [num_rel,num_rel]
    | 2 => simp at e1 e2; subst e1 e2; intro u; rw [num_rel,num_rel]
    | i + 3 => simp at e1
  have two : ∀ {a b a0 a1 b0 b1 : Int},a0 ≤ a ∧ a ≤ a1 → b0 ≤ b ∧ b ≤ b1 → OkD ⟨[(a0,a1),(b0,b1)],[]⟩ (fun i => if i = 0 then a else b) := by
    intro a b a0 a1 b0 b1 h1 h2
    refine ⟨fun i x hx => ?_,fun f hf => by simp at hf⟩
    match i with
    | 0 => simp at hx; subst hx; exact h1
    | 1 => simp at hx; subst hx; exact h2
    | i + 2 => simp at hx
  by_cases h1 : 0 ≤ n
  · by_cases h2 : n ≤ 255
    · refine use (l' := [1]) (r' := .a .i64 0 [1]) (two (a := n) (b := 0) (a0 := 0) (a1 := 255) (b0 := 0) (b1 := 0) ⟨h1,h2⟩ ⟨by omega,by omega⟩) (by simp [dot]) (fun φ nx u => ?_) rfl (by kernel_rfl)
      rw [int_rel]; simp [dot]; rw [Int.emod_eq_of_lt h1 (by omega)]
    · refine use (l' := [256,1]) (r' := .a .i64 0 [0,1]) (two (a := n / 256) (b := n % 256) (a0 := 1) (a1 := 4611686018427387904) (b0 := 0) (b1 := 255) ⟨by omega,by omega⟩ ⟨by omega,by omega⟩) (by simp [dot]; omega) (fun φ nx u => ?_) rfl (by kernel_rfl)
      rw [int_rel]; simp [dot]
  · by_cases h2 : (-n) % 256 = 0
    · refine use (l' := [-256]) (r' := .n .i64 0) (two (a := (-n) / 256) (b := 0) (a0 := 1) (a1 := 4611686018427387904) (b0 := 0) (b1 := 0) ⟨by omega,by omega⟩ ⟨by omega,by omega⟩) (by simp [dot]; omega) (fun φ nx u => ?_) rfl (by kernel_rfl)
      rw [num_rel,show n % 256 = 0 from by omega]
    · refine use (l' := [-256,-1]) (r' := .a .i64 256 [0,-1]) (two (a := (-n) / 256) (b := (-n) % 256) (a0 := 0) (a1 := 4611686018427387904) (b0 := 1) (b1 := 255) ⟨by omega,by omega⟩ ⟨by omega,by omega⟩) (by simp [dot]; omega) (fun φ nx u => ?_) rfl (by kernel_rfl)
      rw [int_rel]; simp [dot]; rw [show 256 + -(-n % 256) = n % 256 from by omega]
noncomputable section
abbrev unD : Dm := dmn 0 255 (-9223372036854775808) 9223372036854775807 (-9223372036854775808) 9223372036854775807
def unGap : PFact := ⟨21,[.val (.a .i64 0 [0,0,1]),.val (.n .i64 0),.val (.n .i64 100)],.a .i64 0 [0,1]⟩
def awakeP : PFact := ⟨14,[],.b true⟩
def unIn (r : MV) : PFact := ⟨15,[.val (.a .i64 0 [0,0,0,1]),.val (.n .i64 0),.val (.n .i64 255)],r⟩
abbrev unC : List PFact := [unGap]
abbrev unArgs : List MV := [.a .i64 0 [0,0,0,1],.a .i64 0 [0,0,1]]
abbrev unRun (a b : Int) (r : MV) (rs rx : TRs) (ls : LHs) : Bool := runZ Tryz.prog (dmn a b (-9223372036854775808) 9223372036854775807 (-9223372036854775808) 9223372036854775807) [unGap,awakeP,unIn r] rs rx ls [] 1000 5 unArgs 0 [] (fun v _ _ => eqV v (.b true))
end
noncomputable section
def un0 : TRule := ⟨6,[.n .i64 2,.n .i64 1,.a .i64 0 [0,0,1]],0,[],[],unD,.agg [.a .i64 144 [0,2],.sl 5 21 0 2 none],22,[(3,.cells [.n .i64 0,.n .i64 72]),(9,.cells [.n .i64 3,.n .i64 0,.n .i64 0,.n .i64 40,.n .i64 0,.n .i64 0,.n .i64 0,.n .i64 40]),(13,.cells [.a .i64 72 [0,1],.n .i64 72]),(19,.cells [.n .i64 3,.n .i64 0,.n .i64 128,.n .i64 40,.n .i64 0,.n .i64 0,.n .i64 128,.n .i64 40]),(21,.cells [.n .i64 1,.n .u32 12812670,.n .i64 2,.sl 4 9 0 2 none,.sl 2 3 0 1 (some 1),.n .i64 2,.n .u32 12812670,.n .i64 3,.sl 4 19 0 2 none,.sl 2 13 0 1 (some 1)])],none⟩
def un1 : TRule := ⟨164,[.agg [.n .i64 0,.n .i64 40],.agg [.n .i64 0,.n .i64 40]],0,[],[],D0,.tup [.agg [.n .i64 0,.n .i64 40],.b true],0,[],some []⟩
def un2 : TRule := ⟨165,[.agg [.n .i64 0,.n .i64 0,.n .i64 128,.n .i64 40],.agg [.n .i64 3,.n .i64 0,.n .i64 128,.n .i64 40]],0,[],[],D0,.b false,0,[],some []⟩
def un3 : TRule := ⟨164,[.agg [.n .i64 128,.n .i64 40],.agg [.n .i64 0,.n .i64 40]],0,[],[],D0,.tup [.agg [.n .i64 0,.n .i64 0],.b false],0,[],some []⟩
def un4 : TRule := ⟨145,[.agg [.a .i64 72 [0,1],.n .i64 72],.sl 2 0 0 1 (some 1)],1,[.arg 1 0],[(0,.cells [.n .i64 0,.n .i64 72])],unD,.b false,1,[],none⟩
def un5 : TRule := ⟨7,[.agg [.a .i64 144 [0,2],.sl 5 0 0 2 none]],5,[.arg 0 1,.cell 0 3,.cell 0 4,.cell 0 8,.cell 0 9],[(0,.cells [.n .i64 1,.n .u32 12812670,.n .i64 2,.sl 4 1 0 2 none,.sl 2 2 0 1 (some 1),.n .i64 2,.n .u32 12812670,.n .i64 3,.sl 4 3 0 2 none,.sl 2 4 0 1 (some 1)]),(1,.cells [.n .i64 3,.n .i64 0,.n .i64 0,.n .i64 40,.n .i64 0,.n .i64 0,.n .i64 0,.n .i64 40]),(2,.cells [.n .i64 0,.n .i64 72]),(3,.cells [.n .i64 3,.n .i64 0,.n .i64 128,.n .i64 40,.n .i64 0,.n .i64 0,.n .i64 128,.n .i64 40]),(4,.cells [.a .i64 72 [0,1],.n .i64 72])],unD,.ptr 146 0,191,[(6,.cells [.sl 1 7 0 512 (some 512),.sl 1 9 0 512 (some 512),.sl 1 8 0 512 (some 512),.sl 1 10 0 512 (some 512)]),(7,.cells (rpt 512 [.b false])),(8,.cells (rpt 512 [.n .u16 0])),(9,.cells (rpt 512 [.b false])),(10,.cells (rpt 512 [.n .u16 0])),(11,.cells [.ptr 6 0,.n .u8 0,.n .i64 0,.n .i64 0]),(131,.cells [.n .i64 3,.n .i64 0,.n .i64 0,.n .i64 40,.n .i64 0,.n .i64 0,.n .i64 0,.n .i64 40]),(133,.cells [.n .i64 0,.n .i64 72]),(138,.cells [.n .i64 3,.n .i64 0,.n .i64 128,.n .i64 40,.n .i64 0,.n .i64 0,.n .i64 128,.n .i64 40]),(140,.cells [.a .i64 72 [0,1],.n .i64 72]),(142,.cells [.n .i64 1,.n .u32 12812670,.n .i64 2,.sl 4 131 0 2 (some 2),.sl 2 133 0 1 (some 1),.n .i64 2,.n .u32 12812670,.n .i64 3,.sl 4 138 0 2 (some 2),.sl 2 140 0 1 (some 1)]),(143,.cells [.ptr 11 0,.v (.slice none 0 0),.v (.slice none 0 0),.v (.slice none 0 0),.v (.slice none 0 0),.v (.slice none 0 0)]),(144,.cells [.v (.slice none 0 0),.n .i64 0]),(145,.map []),(146,.cells [.a .i64 144 [0,2],.sl 5 142 0 2 (some 2),.n .i64 0,.n .i64 0,.v (.pointer none),.ptr 143 0,.sl 3 190 0 2 none,.ptr 144 0,.mp 145,.n .i64 0]),(147,.cells [.v (.slice none 0 0),.b false]),(159,.cells [.n .i64 3,.n .i64 0,.n .i64 0,.n .i64 40,.n .i64 0,.n .i64 0,.n .i64 0,.n .i64 40]),(161,.cells [.n .i64 0,.n .i64 72]),(164,.cells [.n .i64 0,.n .i64 0,.n .i64 0]),(165,.cells [.n .i64 1,.n .u32 12812670,.n .i64 2,.sl 4 159 0 2 (some 2),.sl 2 161 0 1 (some 1),.n .i64 0,.ptr 143 0,.ptr 164 0]),(166,.cells [.v (.slice none 0 0),.n .i64 2,.n .i64 0]),(169,.cells [.v (.slice none 0 0),.b false]),(181,.cells [.n .i64 3,.n .i64 0,.n .i64 128,.n .i64 40,.n .i64 0,.n .i64 0,.n .i64 128,.n .i64 40]),(183,.cells [.a .i64 72 [0,1],.n .i64 72]),(186,.cells [.n .i64 0,.n .i64 0,.n .i64 0]),(187,.cells [.n .i64 2,.n .u32 12812670,.n .i64 3,.sl 4 181 0 2 (some 2),.sl 2 183 0 1 (some 1),.n .i64 1,.ptr 143 0,.ptr 186 0]),(188,.cells [.v (.slice none 0 0),.n .i64 3,.n .i64 0]),(190,.cells [.ptr 165 0,.ptr 166 0,.ptr 147 0,.ptr 187 0,.ptr 188 0,.ptr 169 0])],none⟩
def un6 : TRule := ⟨41,[.agg [.n .i64 3,.n .i64 0,.n .i64 1,.n .i64 0,.n .i64 0,.v (.slice none 0 0),.v (.slice none 0 0),.n .u16 0,.n .u16 0]],0,[],[],D0,.n .i64 0,0,[],some []⟩
def un7 : TRule := ⟨31,[.agg [.n .i64 3,.n .i64 0,.n .i64 1,.n .i64 0,.n .i64 0,.v (.slice none 0 0),.v (.slice none 0 0),.n .u16 0,.n .u16 0]],0,[],[],D0,.tup [.sl 1 9 0 5 (some 5),.n .i64 0],10,[(9,.cells [.n .u8 3,.n .u8 0,.n .u8 0,.n .u8 0,.n .u8 1])],some []⟩
def un8 : TRule := ⟨46,[.agg [.a .i64 144 [0,2],.sl 5 0 0 2 (some 2)]],5,[.arg 0 1,.cell 0 3,.cell 0 4,.cell 0 8,.cell 0 9],[(0,.cells [.n .i64 1,.n .u32 12812670,.n .i64 2,.sl 4 1 0 2 (some 2),.sl 2 2 0 1 (some 1),.n .i64 2,.n .u32 12812670,.n .i64 3,.sl 4 3 0 2 (some 2),.sl 2 4 0 1 (some 1)]),(1,.cells [.n .i64 3,.n .i64 0,.n .i64 0,.n .i64 40,.n .i64 0,.n .i64 0,.n .i64 0,.n .i64 40]),(2,.cells [.n .i64 0,.n .i64 72]),(3,.cells [.n .i64 3,.n .i64 0,.n .i64 128,.n .i64 40,.n .i64 0,.n .i64 0,.n .i64 128,.n .i64 40]),(4,.cells [.a .i64 72 [0,1],.n .i64 72])],unD,.b true,5,[],none⟩
def un9 : TRule := ⟨33,[.ptr 0 0,.a .i64 288 [0,4]],17,[.arg 0 0,.cell 0 1,.cell 0 5,.cell 0 6,.cell 0 7,.cell 0 8,.cell 1 3,.cell 1 4,.cell 1 8,.cell 1 9,.cell 3 0,.cell 3 1,.cell 3 2,.cell 3 3,.cell 3 4,.cell 3 5,.cell 11 0],[(0,.cells [.a .i64 144 [0,2],.sl 5 1 0 2 (some 2),.n .i64 0,.n .i64 0,.v (.pointer none),.ptr 2 0,.sl 3 3 0 2 none,.ptr 4 0,.mp 5,.n .i64 0]),(1,.cells [.n .i64 1,.n .u32 12812670,.n .i64 2,.sl 4 6 0 2 (some 2),.sl 2 7 0 1 (some 1),.n .i64 2,.n .u32 12812670,.n .i64 3,.sl 4 8 0 2 (some 2),.sl 2 9 0 1 (some 1)]),(3,.cells [.ptr 10 0,.ptr 11 0,.ptr 12 0,.ptr 13 0,.ptr 14 0,.ptr 15 0]),(4,.cells [.v (.slice none 0 0),.n .i64 0]),(6,.cells [.n .i64 3,.n .i64 0,.n .i64 0,.n .i64 40,.n .i64 0,.n .i64 0,.n .i64 0,.n .i64 40]),(7,.cells [.n .i64 0,.n .i64 72]),(8,.cells [.n .i64 3,.n .i64 0,.n .i64 128,.n .i64 40,.n .i64 0,.n .i64 0,.n .i64 128,.n .i64 40]),(9,.cells [.a .i64 72 [0,1],.n .i64 72]),(11,.cells [.sl 3 16 0 1 none,.n .i64 2,.n .i64 0]),(14,.cells [.v (.slice none 0 0),.n .i64 3,.n .i64 0])],unD,.a .i64 144 [0,2],17,[],none⟩
def un10 : TRule := ⟨94,[.agg [.a .i64 144 [0,2],.sl 5 0 0 2 (some 2)],.a .i64 144 [0,2]],5,[.arg 0 1,.cell 0 3,.cell 0 4,.cell 0 8,.cell 0 9],[(0,.cells [.n .i64 1,.n .u32 12812670,.n .i64 2,.sl 4 1 0 2 (some 2),.sl 2 2 0 1 (some 1),.n .i64 2,.n .u32 12812670,.n .i64 3,.sl 4 3 0 2 (some 2),.sl 2 4 0 1 (some 1)]),(1,.cells [.n .i64 3,.n .i64 0,.n .i64 0,.n .i64 40,.n .i64 0,.n .i64 0,.n .i64 0,.n .i64 40]),(2,.cells [.n .i64 0,.n .i64 72]),(3,.cells [.n .i64 3,.n .i64 0,.n .i64 128,.n .i64 40,.n .i64 0,.n .i64 0,.n .i64 128,.n .i64 40]),(4,.cells [.a .i64 72 [0,1],.n .i64 72])],unD,.tup [.n .i64 0,.n .i64 0],5,[],none⟩
def un11 : TRule := ⟨150,[.sl 1 0 0 5 (some 5)],1,[.arg 0 0],[(0,.cells [.n .u8 3,.n .u8 0,.n .u8 0,.n .u8 0,.n .u8 1])],D0,.tup [.agg [.n .i64 3,.n .i64 0,.n .i64 1,.n .i64 0,.n .i64 0,.v (.slice none 0 0),.v (.slice none 0 0),.n .u16 0,.n .u16 0],.n .i64 0],1,[],some []⟩
def un12 : TRule := ⟨56,[.agg [.n .i64 3,.n .i64 10,.n .i64 0,.n .i64 0,.n .i64 0,.v (.slice none 0 0),.v (.slice none 0 0),.n .u16 0,.n .u16 0,.v (.slice none 0 0)]],0,[],[],D0,.tup [.sl 1 4 0 2 (some 2),.n .i64 0],5,[(4,.cells [.n .u8 131,.n .u8 10])],some []⟩
def un13 : TRule := ⟨33,[.ptr 0 0,.a .i64 288 [0,4]],18,[.arg 0 0,.cell 0 1,.cell 0 5,.cell 0 6,.cell 0 7,.cell 0 8,.cell 1 3,.cell 1 4,.cell 1 8,.cell 1 9,.cell 3 0,.cell 3 1,.cell 3 2,.cell 3 3,.cell 3 4,.cell 3 5,.cell 4 0,.cell 11 0],[(0,.cells [.a .i64 144 [0,2],.sl 5 1 0 2 (some 2),.n .i64 0,.a .i64 144 [0,2],.v (.pointer none),.ptr 2 0,.sl 3 3 0 2 none,.ptr 4 0,.mp 5,.n .i64 1]),(1,.cells [.n .i64 1,.n .u32 12812670,.n .i64 2,.sl 4 6 0 2 (some 2),.sl 2 7 0 1 (some 1),.n .i64 2,.n .u32 12812670,.n .i64 3,.sl 4 8 0 2 (some 2),.sl 2 9 0 1 (some 1)]),(3,.cells [.ptr 10 0,.ptr 11 0,.ptr 12 0,.ptr 13 0,.ptr 14 0,.ptr 15 0]),(4,.cells [.sl 3 16 0 1 none,.n .i64 1]),(6,.cells [.n .i64 3,.n .i64 0,.n .i64 0,.n .i64 40,.n .i64 0,.n .i64 0,.n .i64 0,.n .i64 40]),(7,.cells [.n .i64 0,.n .i64 72]),(8,.cells [.n .i64 3,.n .i64 0,.n .i64 128,.n .i64 40,.n .i64 0,.n .i64 0,.n .i64 128,.n .i64 40]),(9,.cells [.a .i64 72 [0,1],.n .i64 72]),(11,.cells [.sl 3 17 0 0 (some 0),.n .i64 2,.n .i64 0]),(14,.cells [.v (.slice none 0 0),.n .i64 3,.n .i64 0]),(16,.cells [.a .i64 215 [0,2],.n .i64 0,.n .i64 0])],unD,.a .i64 215 [0,2],18,[],none⟩
def un14 : TRule := ⟨34,[.ptr 0 0],12,[.arg 0 0,.cell 0 1,.cell 0 5,.cell 0 6,.cell 0 7,.cell 0 8,.cell 1 3,.cell 1 4,.cell 1 8,.cell 1 9,.cell 4 0,.cell 5 4],[(0,.cells [.a .i64 144 [0,2],.sl 5 1 0 2 (some 2),.n .i64 0,.a .i64 215 [0,2],.v (.pointer none),.ptr 2 0,.sl 3 3 0 2 none,.ptr 4 0,.mp 5,.n .i64 1]),(1,.cells [.n .i64 1,.n .u32 12812670,.n .i64 2,.sl 4 6 0 2 (some 2),.sl 2 7 0 1 (some 1),.n .i64 2,.n .u32 12812670,.n .i64 3,.sl 4 8 0 2 (some 2),.sl 2 9 0 1 (some 1)]),(4,.cells [.sl 3 10 0 1 none,.n .i64 1]),(5,.map [(.n .i64 0,.agg [.n .i64 0,.n .i64 0,.n .i64 1,.sl 1 11 0 9 (some 9)])]),(6,.cells [.n .i64 3,.n .i64 0,.n .i64 0,.n .i64 40,.n .i64 0,.n .i64 0,.n .i64 0,.n .i64 40]),(7,.cells [.n .i64 0,.n .i64 72]),(8,.cells [.n .i64 3,.n .i64 0,.n .i64 128,.n .i64 40,.n .i64 0,.n .i64 0,.n .i64 128,.n .i64 40]),(9,.cells [.a .i64 72 [0,1],.n .i64 72]),(10,.cells [.a .i64 215 [0,2],.n .i64 0,.n .i64 0])],unD,.sl 4 28 0 1 none,29,[(4,.cells [.sl 3 10 0 0 none,.n .i64 1]),(5,.map []),(28,.cells [.a .i64 215 [0,2],.n .i64 0,.n .i64 1,.sl 1 11 0 9 (some 9)])],none⟩
def un15 : TRule := ⟨33,[.ptr 0 0,.a .i64 288 [0,4]],18,[.arg 0 0,.cell 0 1,.cell 0 5,.cell 0 6,.cell 0 7,.cell 0 8,.cell 1 3,.cell 1 4,.cell 1 8,.cell 1 9,.cell 3 0,.cell 3 1,.cell 3 2,.cell 3 3,.cell 3 4,.cell 3 5,.cell 4 0,.cell 11 0],[(0,.cells [.a .i64 144 [0,2],.sl 5 1 0 2 (some 2),.n .i64 0,.a .i64 215 [0,2],.v (.pointer none),.ptr 2 0,.sl 3 3 0 2 none,.ptr 4 0,.mp 5,.n .i64 1]),(1,.cells [.n .i64 1,.n .u32 12812670,.n .i64 2,.sl 4 6 0 2 (some 2),.sl 2 7 0 1 (some 1),.n .i64 2,.n .u32 12812670,.n .i64 3,.sl 4 8 0 2 (some 2),.sl 2 9 0 1 (some 1)]),(3,.cells [.ptr 10 0,.ptr 11 0,.ptr 12 0,.ptr 13 0,.ptr 14 0,.ptr 15 0]),(4,.cells [.sl 3 16 0 0 none,.n .i64 1]),(6,.cells [.n .i64 3,.n .i64 0,.n .i64 0,.n .i64 40,.n .i64 0,.n .i64 0,.n .i64 0,.n .i64 40]),(7,.cells [.n .i64 0,.n .i64 72]),(8,.cells [.n .i64 3,.n .i64 0,.n .i64 128,.n .i64 40,.n .i64 0,.n .i64 0,.n .i64 128,.n .i64 40]),(9,.cells [.a .i64 72 [0,1],.n .i64 72]),(11,.cells [.sl 3 17 0 0 (some 0),.n .i64 2,.n .i64 0]),(14,.cells [.v (.slice none 0 0),.n .i64 3,.n .i64 0])],unD,.a .i64 288 [0,4],18,[],none⟩
def un16 : TRule := ⟨34,[.ptr 0 0],18,[.arg 0 0,.cell 0 1,.cell 0 5,.cell 0 6,.cell 0 7,.cell 0 8,.cell 1 3,.cell 1 4,.cell 1 8,.cell 1 9,.cell 3 0,.cell 3 1,.cell 3 2,.cell 3 3,.cell 3 4,.cell 3 5,.cell 4 0,.cell 11 0],[(0,.cells [.a .i64 144 [0,2],.sl 5 1 0 2 (some 2),.n .i64 0,.a .i64 288 [0,4],.v (.pointer none),.ptr 2 0,.sl 3 3 0 2 none,.ptr 4 0,.mp 5,.n .i64 1]),(1,.cells [.n .i64 1,.n .u32 12812670,.n .i64 2,.sl 4 6 0 2 (some 2),.sl 2 7 0 1 (some 1),.n .i64 2,.n .u32 12812670,.n .i64 3,.sl 4 8 0 2 (some 2),.sl 2 9 0 1 (some 1)]),(3,.cells [.ptr 10 0,.ptr 11 0,.ptr 12 0,.ptr 13 0,.ptr 14 0,.ptr 15 0]),(4,.cells [.sl 3 16 0 0 none,.n .i64 1]),(6,.cells [.n .i64 3,.n .i64 0,.n .i64 0,.n .i64 40,.n .i64 0,.n .i64 0,.n .i64 0,.n .i64 40]),(7,.cells [.n .i64 0,.n .i64 72]),(8,.cells [.n .i64 3,.n .i64 0,.n .i64 128,.n .i64 40,.n .i64 0,.n .i64 0,.n .i64 128,.n .i64 40]),(9,.cells [.a .i64 72 [0,1],.n .i64 72]),(11,.cells [.sl 3 17 0 0 (some 0),.n .i64 2,.n .i64 0])],unD,.v (.slice none 0 0),18,[],none⟩
def un17 : TRule := ⟨172,[.agg [.n .i64 1,.n .u32 12812670,.n .i64 2,.sl 4 0 0 2 (some 2),.sl 2 1 0 1 (some 1)],.agg [.n .i64 3,.n .i64 0,.n .i64 1,.n .i64 0,.n .i64 0,.v (.slice none 0 0),.v (.slice none 0 0),.n .u16 0,.n .u16 0]],2,[.arg 0 3,.arg 0 4],[(0,.cells [.n .i64 3,.n .i64 0,.n .i64 0,.n .i64 40,.n .i64 0,.n .i64 0,.n .i64 0,.n .i64 40])],D0,.tup [.v (.slice none 0 0),.sl 3 58 0 1 (some 1),.b true],59,[(58,.cells [.n .i64 0,.n .i64 0,.n .i64 1])],some []⟩
def un18 : TRule := ⟨151,[.agg [.n .i64 1,.n .u32 12812670,.n .i64 2,.sl 4 0 0 2 (some 2),.sl 2 1 0 1 (some 1)],.agg [.n .i64 3,.n .i64 0,.n .i64 1,.n .i64 0,.n .i64 0,.v (.slice none 0 0),.v (.slice none 0 0),.n .u16 0,.n .u16 0]],2,[.arg 0 3,.arg 0 4],[(0,.cells [.n .i64 3,.n .i64 0,.n .i64 0,.n .i64 40,.n .i64 0,.n .i64 0,.n .i64 0,.n .i64 40])],D0,.tup [.sl 10 125 0 1 (some 1),.n .i64 0],126,[(125,.cells [.n .i64 3,.n .i64 0,.n .i64 1,.n .i64 0,.n .i64 0,.v (.slice none 0 0),.v (.slice none 0 0),.n .u16 0,.n .u16 0,.b false])],some []⟩
def un19 : TRule := ⟨89,[.agg [.n .i64 3,.n .i64 0,.n .i64 0,.n .i64 0,.n .i64 0,.v (.slice none 0 0),.sl 1 0 0 1 (some 1),.n .u16 0,.n .u16 0,.v (.slice none 0 0)]],1,[.arg 0 6],[(0,.cells [.n .u16 0])],D0,.n .i64 0,1,[],some []⟩
def un20 : TRule := ⟨56,[.agg [.n .i64 3,.n .i64 0,.n .i64 0,.n .i64 0,.n .i64 0,.v (.slice none 0 0),.sl 1 0 0 1 (some 1),.n .u16 0,.n .u16 0,.v (.slice none 0 0)]],1,[.arg 0 6],[(0,.cells [.n .u16 0])],D0,.tup [.sl 1 6 0 4 (some 4),.n .i64 0],7,[(6,.cells [.n .u8 3,.n .u8 2,.n .u8 0,.n .u8 0])],some []⟩
def un0U : TRs := []
def un1U : TRs := []
def un2U : TRs := []
def un3U : TRs := []
def un4U : TRs := []
def un5U : TRs := [(164,[un1,un3]),(165,[un2]),(145,[un4])]
def un6U : TRs := []
def un7U : TRs := [(41,[un6])]
def un8U : TRs := [(164,[un1,un3]),(165,[un2]),(145,[un4])]
def un9U : TRs := [(46,[un8])]
def un10U : TRs := [(46,[un8])]
def un11U : TRs := [(31,[un7])]
def un12U : TRs := []
def un13U : TRs := [(46,[un8])]
def un14U : TRs := [(46,[un8])]
def un15U : TRs := [(46,[un8])]
def un16U : TRs := [(46,[un8])]
def un17U : TRs := []
def un18U : TRs := [(41,[un6]),(172,[un17])]
def un19U : TRs := []
def un20U : TRs := [(89,[un19])]
def unX : TRs := []
end
theorem un0_B : truleZ Tryz.prog unD unC un0U [] [] [] 1000 un0 = true := by kernel_rfl
theorem un3_B : truleZ Tryz.prog D0 [] un3U [] [] [] 1000 un3 = true := by kernel_rfl
theorem un5_B : truleZ Tryz.prog unD unC un5U [] [] [] 1000 un5 = true := by kernel_rfl
theorem un6_B : truleZ Tryz.prog D0 [] un6U [] [] [] 1000 un6 = true := by kernel_rfl
theorem un11_B : truleZ Tryz.prog D0 [] un11U [] [] [] 1000 un11 = true := by kernel_rfl
theorem un12_B : truleZ Tryz.prog D0 [] un12U [] [] [] 1000 un12 = true := by kernel_rfl
theorem un13_B : truleZ Tryz.prog unD unC un13U [] [] [] 1000 un13 = true := by kernel_rfl
theorem un14_B : truleZ Tryz.prog unD unC un14U [] [] [] 1000 un14 = true := by kernel_rfl
theorem un18_B : truleZ Tryz.prog D0 [] un18U [] [] [] 1000 un18 = true := by kernel_rfl
theorem un20_B : truleZ Tryz.prog D0 [] un20U [] [] [] 1000 un20 = true := by kernel_rfl
theorem un1_B : truleZ Tryz.prog D0 [] un1U [] [] [] 1000 un1 = true := by kernel_rfl
theorem un2_B : truleZ Tryz.prog D0 [] un2U [] [] [] 1000 un2 = true := by kernel_rfl
theorem un4_B : truleZ Tryz.prog unD unC un4U [] [] [] 1000 un4 = true := by kernel_rfl
theorem un7_B : truleZ Tryz.prog D0 [] un7U [] [] [] 1000 un7 = true := by kernel_rfl
theorem un8_B : truleZ Tryz.prog unD unC un8U [] [] [] 1000 un8 = true := by kernel_rfl
theorem un9_B : truleZ Tryz.prog unD unC un9U [] [] [] 1000 un9 = true := by kernel_rfl
theorem un10_B : truleZ Tryz.prog unD unC un10U [] [] [] 1000 un10 = true := by kernel_rfl
theorem un15_B : truleZ Tryz.prog unD unC un15U [] [] [] 1000 un15 = true := by kernel_rfl
theorem un16_B : truleZ Tryz.prog unD unC un16U [] [] [] 1000 un16 = true := by kernel_rfl
theorem un17_B : truleZ Tryz.prog D0 [] un17U [] [] [] 1000 un17 = true := by kernel_rfl
theorem un19_B : truleZ Tryz.prog D0 [] un19U [] [] [] 1000 un19 = true := by kernel_rfl
noncomputable def unU1 : TRs := [(6,[un0]),(7,[un5]),(41,[un6]),(31,[un7]),(46,[un8]),(33,[un9,un13,un15]),(94,[un10]),(150,[un11]),(34,[un16]),(151,[un18]),(89,[un19]),(56,[un20])]
noncomputable def unL1 : LHs := []
theorem unR1 : unRun 1 1 (.n .i64 1) unU1 unX unL1 = true := by kernel_rfl
noncomputable def unU0 : TRs := [(6,[un0]),(7,[un5]),(31,[un7]),(33,[un9,un13,un15]),(94,[un10]),(150,[un11]),(56,[un12]),(34,[un14,un16])]
noncomputable def unL0 : LHs := []
theorem unR0 : unRun 0 0 (.n .i64 0) unU0 unX unL0 = true := by kernel_rfl
noncomputable def unU2 : TRs := [(6,[un0]),(7,[un5]),(31,[un7]),(33,[un9,un13,un15]),(94,[un10]),(150,[un11]),(56,[un12]),(34,[un14,un16])]
noncomputable def unL2 : LHs := []
theorem unR2 : unRun 2 255 (.a .i64 0 [1]) unU2 unX unL2 = true := by kernel_rfl
theorem un0_ok {ρ : Nat → Int} (hD : OkD unD ρ) (hf : PFactsOk ρ Tryz.prog unC) : TOk ρ Tryz.prog un0 := .own rfl (truleZ_ok mixed hD hf tr_nil (fun _ => tr_nil) un0_B)
theorem un1_ok {ρ : Nat → Int} : TOk ρ Tryz.prog un1 := .gen rfl fun ρ' hD => truleZ_ok mixed hD pfacts_nil tr_nil (fun _ => tr_nil) un1_B
theorem un2_ok {ρ : Nat → Int} : TOk ρ Tryz.prog un2 := .gen rfl fun ρ' hD => truleZ_ok mixed hD pfacts_nil tr_nil (fun _ => tr_nil) un2_B
theorem un3_ok {ρ : Nat → Int} : TOk ρ Tryz.prog un3 := .gen rfl fun ρ' hD => truleZ_ok mixed hD pfacts_nil tr_nil (fun _ => tr_nil) un3_B
theorem un4_ok {ρ : Nat → Int} (hD : OkD unD ρ) (hf : PFactsOk ρ Tryz.prog unC) : TOk ρ Tryz.prog un4 := .own rfl (truleZ_ok mixed hD hf tr_nil (fun _ => tr_nil) un4_B)
theorem un5_ok {ρ : Nat → Int} (hD : OkD unD ρ) (hf : PFactsOk ρ Tryz.prog unC) : TOk ρ Tryz.prog un5 := .own rfl (truleZ_ok mixed hD hf (tr_cons un1_ok (tr_cons un3_ok (tr_nil1 (tr_cons un2_ok (tr_nil1 (tr_cons (un4_ok hD hf) (tr_nil1 tr_nil))))))) (fun _ => tr_nil) un5_B)
theorem un6_ok {ρ : Nat → Int} : TOk ρ Tryz.prog un6 := .gen rfl fun ρ' hD => truleZ_ok mixed hD pfacts_nil tr_nil (fun _ => tr_nil) un6_B
theorem un7_ok {ρ : Nat → Int} : TOk ρ Tryz.prog un7 := .gen rfl fun ρ' hD => truleZ_ok mixed hD pfacts_nil (tr_cons un6_ok (tr_nil1 tr_nil)) (fun _ => tr_nil) un7_B
theorem un8_ok {ρ : Nat → Int} (hD : OkD unD ρ) (hf : PFactsOk ρ Tryz.prog unC) : TOk ρ Tryz.prog un8 := .own rfl (truleZ_ok mixed hD hf (tr_cons un1_ok (tr_cons un3_ok (tr_nil1 (tr_cons un2_ok (tr_nil1 (tr_cons (un4_ok hD hf) (tr_nil1 tr_nil))))))) (fun _ => tr_nil) un8_B)
theorem un9_ok {ρ : Nat → Int} (hD : OkD unD ρ) (hf : PFactsOk ρ Tryz.prog unC) : TOk ρ Tryz.prog un9 := .own rfl (truleZ_ok mixed hD hf (tr_cons (un8_ok hD hf) (tr_nil1 tr_nil)) (fun _ => tr_nil) un9_B)
theorem un10_ok {ρ : Nat → Int} (hD : OkD unD ρ) (hf : PFactsOk ρ Tryz.prog unC) : TOk ρ Tryz.prog un10 := .own rfl (truleZ_ok mixed hD hf (tr_cons (un8_ok hD hf) (tr_nil1 tr_nil)) (fun _ => tr_nil) un10_B)
theorem un11_ok {ρ : Nat → Int} : TOk ρ Tryz.prog un11 := .gen rfl fun ρ' hD => truleZ_ok mixed hD pfacts_nil (tr_cons un7_ok (tr_nil1 tr_nil)) (fun _ => tr_nil) un11_B
theorem un12_ok {ρ : Nat → Int} : TOk ρ Tryz.prog un12 := .gen rfl fun ρ' hD => truleZ_ok mixed hD pfacts_nil tr_nil (fun _ => tr_nil) un12_B
theorem un13_ok {ρ : Nat → Int} (hD : OkD unD ρ) (hf : PFactsOk ρ Tryz.prog unC) : TOk ρ Tryz.prog un13 := .own rfl (truleZ_ok mixed hD hf (tr_cons (un8_ok hD hf) (tr_nil1 tr_nil)) (fun _ => tr_nil) un13_B)
theorem un14_ok {ρ : Nat → Int} (hD : OkD unD ρ) (hf : PFactsOk ρ Tryz.prog unC) : TOk ρ Tryz.prog un14 := .own rfl (truleZ_ok mixed hD hf (tr_cons (un8_ok hD hf) (tr_nil1 tr_nil)) (fun _ => tr_nil) un14_B)
theorem un15_ok {ρ : Nat → Int} (hD : OkD unD ρ) (hf : PFactsOk ρ Tryz.prog unC) : TOk ρ Tryz.prog un15 := .own rfl (truleZ_ok mixed hD hf (tr_cons (un8_ok hD hf) (tr_nil1 tr_nil)) (fun _ => tr_nil) un15_B)
theorem un16_ok {ρ : Nat → Int} (hD : OkD unD ρ) (hf : PFactsOk ρ Tryz.prog unC) : TOk ρ Tryz.prog un16 := .own rfl (truleZ_ok mixed hD hf (tr_cons (un8_ok hD hf) (tr_nil1 tr_nil)) (fun _ => tr_nil) un16_B)
theorem un17_ok {ρ : Nat → Int} : TOk ρ Tryz.prog un17 := .gen rfl fun ρ' hD => truleZ_ok mixed hD pfacts_nil tr_nil (fun _ => tr_nil) un17_B
theorem un18_ok {ρ : Nat → Int} : TOk ρ Tryz.prog un18 := .gen rfl fun ρ' hD => truleZ_ok mixed hD pfacts_nil (tr_cons un6_ok (tr_nil1 (tr_cons un17_ok (tr_nil1 tr_nil)))) (fun _ => tr_nil) un18_B
theorem un19_ok {ρ : Nat → Int} : TOk ρ Tryz.prog un19 := .gen rfl fun ρ' hD => truleZ_ok mixed hD pfacts_nil tr_nil (fun _ => tr_nil) un19_B
theorem un20_ok {ρ : Nat → Int} : TOk ρ Tryz.prog un20 := .gen rfl fun ρ' hD => truleZ_ok mixed hD pfacts_nil (tr_cons un19_ok (tr_nil1 tr_nil)) (fun _ => tr_nil) un20_B
theorem unX_ok (ρ : Nat → Int) : TRulesOk ρ Tryz.prog unX := tr_nil
theorem unV0 {ρ : Nat → Int} (hD : OkD unD ρ) (hf : PFactsOk ρ Tryz.prog unC) : TRulesOk ρ Tryz.prog unU0 := (tr_cons (un0_ok hD hf) (tr_nil1 (tr_cons (un5_ok hD hf) (tr_nil1 (tr_cons un7_ok (tr_nil1 (tr_cons (un9_ok hD hf) (tr_cons (un13_ok hD hf) (tr_cons (un15_ok hD hf) (tr_nil1 (tr_cons (un10_ok hD hf) (tr_nil1 (tr_cons un11_ok (tr_nil1 (tr_cons un12_ok (tr_nil1 (tr_cons (un14_ok hD hf) (tr_cons (un16_ok hD hf) (tr_nil1 tr_nil)))))))))))))))))))
theorem unV1 {ρ : Nat → Int} (hD : OkD unD ρ) (hf : PFactsOk ρ Tryz.prog unC) : TRulesOk ρ Tryz.prog unU1 := (tr_cons (un0_ok hD hf) (tr_nil1 (tr_cons (un5_ok hD hf) (tr_nil1 (tr_cons un6_ok (tr_nil1 (tr_cons un7_ok (tr_nil1 (tr_cons (un8_ok hD hf) (tr_nil1 (tr_cons (un9_ok hD hf) (tr_cons (un13_ok hD hf) (tr_cons (un15_ok hD hf) (tr_nil1 (tr_cons (un10_ok hD hf) (tr_nil1 (tr_cons un11_ok (tr_nil1 (tr_cons (un16_ok hD hf) (tr_nil1 (tr_cons un18_ok (tr_nil1 (tr_cons un19_ok (tr_nil1 (tr_cons un20_ok (tr_nil1 tr_nil))))))))))))))))))))))))))
theorem unV2 {ρ : Nat → Int} (hD : OkD unD ρ) (hf : PFactsOk ρ Tryz.prog unC) : TRulesOk ρ Tryz.prog unU2 := (tr_cons (un0_ok hD hf) (tr_nil1 (tr_cons (un5_ok hD hf) (tr_nil1 (tr_cons un7_ok (tr_nil1 (tr_cons (un9_ok hD hf) (tr_cons (un13_ok hD hf) (tr_cons (un15_ok hD hf) (tr_nil1 (tr_cons (un10_ok hD hf) (tr_nil1 (tr_cons un11_ok (tr_nil1 (tr_cons un12_ok (tr_nil1 (tr_cons (un14_ok hD hf) (tr_cons (un16_ok hD hf) (tr_nil1 tr_nil)))))))))))))))))))
theorem un_gap {q g z : Int} (hq : (-9223372036854775808) ≤ q ∧ q ≤ 9223372036854775807) (h : (-9223372036854775808) ≤ g ∧ g ≤ 9223372036854775807) (hz : (-9223372036854775808) ≤ z ∧ z ≤ 9223372036854775807) : PFactsOk (vars q g z) Tryz.prog unC := pfacts_cons (Fact.pfact (gap_ok q g z hq h hz)) pfacts_nil
theorem units_law (n g : Int) (hn : (-9223372036854775808) ≤ n ∧ n ≤ 9223372036854775807) (hg : (-9223372036854775808) ≤ g ∧ g ≤ 9223372036854775807) (w : World) : Calls Tryz.prog 5 [Value.int .i64 n,Value.int .i64 g].toArray w fun e w' => e = .returned (.bool true) ∧ RowKit.Below w.heap.size w w' := by
  have hdot : dot (vars (n % 256) g n) 0 [0,0,0,1] = n := by simp [dot,vars]
  have hD : OkD unD (vars (n % 256) g n) := okDmn ⟨by omega,by omega⟩ hg hn
  have hf : PFactsOk (vars (n % 256) g n) Tryz.prog unC := un_gap ⟨by omega,by omega⟩ hg hn
  have key : ∀ {a b : Int}{r : MV}{rs : TRs}{ls : LHs},a ≤ n % 256 ∧ n % 256 ≤ b → noneV r = true → (∀ φ nx u,Rel (vars (n % 256) g n) φ nx r u ↔ u = .int .i64 (n % 256)) → TRulesOk (vars (n % 256) g n) Tryz.prog rs → unRun a b r rs unX ls = true → Ans (vars (n % 256) g n) Tryz.prog 5 unArgs (.b true) := by
    intro a b r rs ls h1 h2 h3 h4 h5
    refine Ans.ofZ mixed (okDmn h1 hg hn) (pfacts_cons (hf _ (by simp)) (pfacts_cons (Fact.pfact (awakeF_ok _)) (pfacts_cons ?_ pfacts_nil))) h4 unX_ok h5
    exact Fact.pfact (f := ⟨15,[.a .i64 0 [0,0,0,1],.n .i64 0,.n .i64 255],r⟩) ⟨rfl,h2,within256 hdot hn h3⟩
  have h : Ans (vars (n % 256) g n) Tryz.prog 5 unArgs (.b true) := by
    by_cases h0 : n % 256 = 0
    · exact key ⟨by omega,by omega⟩ rfl (fun φ nx u => by rw [num_rel,h0]) (unV0 hD hf) unR0
    · by_cases h1 : n % 256 = 1
      · exact key ⟨by omega,by omega⟩ rfl (fun φ nx u => by rw [num_rel,h1]) (unV1 hD hf) unR1
      · exact key ⟨by omega,by omega⟩ rfl (fun φ nx u => by rw [int_rel]; simp [dot,vars]) (unV2 hD hf) unR2
  refine h.row rfl fun i x u h1 h2 φ nx => ?_
  match i with
  | 0 => simp at h1 h2; subst h1 h2; rw [int_rel]; simp [dot,vars]
  | 1 => simp at h1 h2; subst h1 h2; rw [int_rel]; simp [dot,vars]
  | i + 2 => simp at h1
end Go.Proofs.YtnajikpdnccilaaGreat.Pv.M
