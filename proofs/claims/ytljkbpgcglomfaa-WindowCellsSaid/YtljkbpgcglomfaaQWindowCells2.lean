/- What the law WindowCells needs, and no more: merged out of texts of this session by a program of it (wip/tools/prune.py). -/
import Derived.Test.YtljkbpgcglomfaaQWindowCells1
set_option linter.unusedVariables false
set_option linter.unusedSimpArgs false
namespace Go.Proofs.Ytljkbpgcglomfaa
open Go Go.Proofs.Ytljkbpgcglomfaa.Pv
abbrev vSp (w : TWindow) : TSpan := ⟨w.virtual,w.count⟩
abbrev pSp (w : TWindow) : TSpan := ⟨w.physical,w.count⟩
def winR (w : TWindow) : Bool := ((decide (0 ≤ w.space) && decide (w.space ≤ 3)) && spRight (vSp w) 65536) && spRight (pSp w) 512
theorem winR_iff (w : TWindow) : winR w = true ↔ (0 ≤ w.space ∧ w.space ≤ 3) ∧ (0 ≤ w.virtual ∧ 1 ≤ w.count ∧ w.virtual ≤ 65536 ∧ w.count ≤ 65536 - w.virtual) ∧ (0 ≤ w.physical ∧ 1 ≤ w.count ∧ w.physical ≤ 512 ∧ w.count ≤ 512 - w.physical) := by
  simp only [winR,spRight,Bool.and_eq_true,decide_eq_true_eq,and_assoc]
theorem winR_sp {w : TWindow} (h : winR w = true) : spOk (vSp w) = true ∧ spOk (pSp w) = true := by
  have h2 := (winR_iff w).1 h
  exact ⟨(spOk_iff _).2 (by simp only; omega),(spOk_iff _).2 (by simp only; omega)⟩
def ofW (s : Int) (w : TWindow) : Bool := winR w && decide (w.space = s)
def ofL (l : List TWindow) (s : Int) : List TWindow := l.filter (ofW s)
theorem of_snoc_t {l : List TWindow} {s : Int} {i : Nat} {e : TWindow} (he : l[i]? = some e) (h : (winR e && decide (e.space = s)) = true) : ofL (l.take i) s ++ [e] = ofL (l.take (i + 1)) s := by
  have h2 : ofW s e = true := h
  unfold ofL
  rw [List.take_add_one,he,List.filter_append]
  simp [h2]
theorem of_snoc_f {l : List TWindow} {s : Int} {i : Nat} {e : TWindow} (he : l[i]? = some e) (h : (winR e && decide (e.space = s)) = false) : ofL (l.take i) s = ofL (l.take (i + 1)) s := by
  have h2 : ofW s e = false := h
  unfold ofL
  rw [List.take_add_one,he,List.filter_append]
  simp [h2]
theorem ofL_len (l : List TWindow) (s : Int) : (ofL l s).length ≤ l.length := by unfold ofL; exact List.length_filter_le _ _
theorem ofL_mem {l : List TWindow} {s : Int} {w : TWindow} (h : w ∈ ofL l s) : winR w = true ∧ w.space = s ∧ w ∈ l := by
  unfold ofL at h
  rw [List.mem_filter] at h
  simp only [ofW,Bool.and_eq_true,decide_eq_true_eq] at h
  exact ⟨h.2.1,h.2.2,h.1⟩
theorem ofL_get {l : List TWindow} {s : Int} {i : Nat} {w : TWindow} (h : (ofL l s)[i]? = some w) : winR w = true ∧ w.space = s ∧ w ∈ l := ofL_mem (List.mem_of_getElem? h)
theorem ofL_sp (l : List TWindow) (s : Int) : ∀ x ∈ (ofL l s).map vSp,spOk x = true := by
  intro x hx
  obtain ⟨w,hw,rfl⟩ := List.mem_map.1 hx
  exact (winR_sp (ofL_mem hw).1).1
theorem covGo_mem (L : List TSpan) (e : Int) : ∀ (n : Nat) (v : Int) (os : List TSpan),(e - v).toNat ≤ n → covGo L e v = some os → ∀ p ∈ os,v ≤ p.at_ ∧ p.at_ + p.count ≤ e ∧ 1 ≤ p.count ∧ ∃ i x,idxAt L p.at_ = some i ∧ L[i]? = some x ∧ x.at_ ≤ p.at_ ∧ p.at_ + p.count ≤ x.at_ + x.count
  | n,v,os,hn,h,p,hp => by
    rw [covGo] at h
    split at h
    · rename_i hv
      split at h
      · cases h
      · rename_i i hi
        split at h
        · rename_i hlt
          simp only [Option.map_eq_some_iff] at h
          obtain ⟨t,h1,rfl⟩ := h
          match n,hn with
          | 0,hn => omega
          | n + 1,hn =>
            rcases List.mem_cons.1 hp with rfl|hp
            · have hi2 := hi
              unfold idxAt at hi2
              rw [List.findIdx?_eq_some_iff_getElem] at hi2
              obtain ⟨hl,hc,_⟩ := hi2
              simp only [Bool.and_eq_true,decide_eq_true_eq] at hc
              have hx : L[i]? = some L[i] := by simp [hl]
              have hg : L.getD i sp0 = L[i] := by simp [List.getD_eq_getElem?_getD,hx]
              rw [hg] at hlt ⊢
              exact ⟨by simp only; omega,by simp only; omega,by simp only; omega,i,L[i],hi,hx,hc.1,by simp only; omega⟩
            · have := covGo_mem L e n _ t (by omega) h1 p hp
              exact ⟨by omega,this.2⟩
        · cases h
    · cases h; cases hp
theorem coverV_mem {L : List TSpan} {s p : TSpan} (hp : p ∈ coverV L s) : spOk s = true ∧ (∀ x ∈ L,spOk x = true) ∧ s.at_ ≤ p.at_ ∧ p.at_ + p.count ≤ s.at_ + s.count ∧ 1 ≤ p.count ∧ ∃ i x,idxAt L p.at_ = some i ∧ L[i]? = some x ∧ x.at_ ≤ p.at_ ∧ p.at_ + p.count ≤ x.at_ + x.count := by
  unfold coverV coverL at hp
  split at hp
  · rename_i h
    cases hc : covGo L (s.at_ + s.count) s.at_ with
    | none => rw [hc] at hp; cases hp
    | some os => rw [hc] at hp; exact ⟨h.1,h.2,covGo_mem L _ _ _ os (Nat.le_refl _) hc p hp⟩
  · cases hp
theorem in_one {x p : TSpan} (hx : spOk x = true) (hp : 0 ≤ p.at_ ∧ p.at_ ≤ 2147483647) : spIn ⟨p.at_,1⟩ x = (decide (x.at_ ≤ p.at_) && decide (p.at_ < x.at_ + x.count)) := by
  rw [Bool.eq_iff_iff,spIn_iff]
  simp only [Bool.and_eq_true,decide_eq_true_eq,hx,true_and]
  have : spOk ⟨p.at_,1⟩ = true := (spOk_iff _).2 (by simp only; omega)
  rw [this]
  simp only [true_and]
  omega
def pieceW (ws : List TWindow) (p : TSpan) : TPiece := match ws.find? (fun w => spIn ⟨p.at_,1⟩ (vSp w)) with
  | some w => ⟨p.at_,w.physical + p.at_ - w.virtual,p.count⟩
  | none => ⟨0,0,0⟩
def covW (l : List TWindow) (s a n : Int) : List TSpan := coverV ((ofL l s).map vSp) ⟨a,n⟩
def mapL (l : List TWindow) (s a n : Int) : List TPiece := (covW l s a n).map (pieceW (ofL l s))
def mapOk (l : List TWindow) (s a n : Int) : Bool := coverOk ((ofL l s).map vSp) ⟨a,n⟩
theorem covW_len (l : List TWindow) (s a n : Int) : (covW l s a n).length ≤ 2147483648 := coverV_length _ _
theorem piece_of {l : List TWindow} {s a n : Int} {p : TSpan} (hp : p ∈ covW l s a n) : ∃ i w,(ofL l s)[i]? = some w ∧ ((ofL l s).map vSp).findIdx? (fun x => spIn ⟨p.at_,1⟩ x) = some i ∧ (∀ j u,j < i → (ofL l s)[j]? = some u → spIn ⟨p.at_,1⟩ (vSp u) = false) ∧
    spIn p (vSp w) = true ∧ pieceW (ofL l s) p = ⟨p.at_,w.physical + p.at_ - w.virtual,p.count⟩ ∧ winR w = true ∧ w.space = s ∧ w ∈ l ∧ w.virtual ≤ p.at_ ∧ p.at_ + p.count ≤ w.virtual + w.count ∧ 1 ≤ p.count ∧ a ≤ p.at_ ∧ p.at_ + p.count ≤ a + n := by
  obtain ⟨h1,h2,h3,h4,h5,i,x,hi,hx,h6,h7⟩ := coverV_mem hp
  have hs := (spOk_iff _).1 h1
  simp only at hs h3 h4
  rw [List.getElem?_map] at hx
  obtain ⟨w,hw,rfl⟩ := Option.map_eq_some_iff.1 hx
  obtain ⟨m1,m2,m3⟩ := ofL_get hw
  have hsp := (winR_sp m1).1
  have hb := (spOk_iff _).1 hsp
  simp only at h6 h7 hb
  have hall : ∀ x ∈ (ofL l s).map vSp,spIn ⟨p.at_,1⟩ x = (decide (x.at_ ≤ p.at_) && decide (p.at_ < x.at_ + x.count)) := fun x hx => in_one (h2 x hx) (by omega)
  have hf : ((ofL l s).map vSp).findIdx? (fun x => spIn ⟨p.at_,1⟩ x) = some i := by
    unfold idxAt at hi
    rw [List.findIdx?_eq_some_iff_getElem] at hi ⊢
    obtain ⟨q1,q2,q3⟩ := hi
    refine ⟨q1,by rw [hall _ (List.getElem_mem _)]; exact q2,fun j hj => ?_⟩
    rw [hall _ (List.getElem_mem _)]
    exact q3 j hj
  have hin1 : spIn ⟨p.at_,1⟩ (vSp w) = true := by rw [in_one hsp (by omega)]; simp only [Bool.and_eq_true,decide_eq_true_eq]; omega
  have hno : ∀ j u,j < i → (ofL l s)[j]? = some u → spIn ⟨p.at_,1⟩ (vSp u) = false := by
    intro j u hj hu
    have hf2 := hf
    rw [List.findIdx?_eq_some_iff_getElem] at hf2
    obtain ⟨q1,q2,q3⟩ := hf2
    have := q3 j hj
    have hg : ((ofL l s).map vSp)[j]? = some (vSp u) := by rw [List.getElem?_map,hu]; rfl
    have hg2 := List.getElem?_eq_some_iff.1 hg
    obtain ⟨_,hg3⟩ := hg2
    rw [hg3] at this
    simpa using this
  have hfi : (ofL l s).find? (fun w => spIn ⟨p.at_,1⟩ (vSp w)) = some w := by
    rw [List.find?_eq_some_iff_getElem]
    obtain ⟨g1,g2⟩ := List.getElem?_eq_some_iff.1 hw
    refine ⟨hin1,i,g1,g2,fun j hj => ?_⟩
    have := hno j ((ofL l s)[j]) hj (by simp [show j < (ofL l s).length by omega])
    simp [this]
  refine ⟨i,w,hw,hf,hno, ?_, ?_,m1,m2,m3,h6,h7,h5,h3,h4⟩
  · exact (spIn_iff _ _).2 ⟨(spOk_iff _).2 (by omega),hsp,h6,h7⟩
  · unfold pieceW; rw [hfi]
def holdW (a : Int) (w : TWindow) : Bool := decide (w.physical ≤ a) && decide (a - w.physical < w.count)
def backF (l : List TWindow) (s a : Int) : Option TWindow := (ofL l s).find? (holdW a)
def backV (l : List TWindow) (s a : Int) : Int := match backF l s a with
  | some w => w.virtual + a - w.physical
  | none => 0
def backOk (l : List TWindow) (s a : Int) : Bool := (backF l s a).isSome
theorem back_some {l : List TWindow} {s a : Int} {i : Nat} {w : TWindow} (hw : (ofL l s)[i]? = some w) (h : holdW a w = true) (hno : ∀ j u,j < i → (ofL l s)[j]? = some u → holdW a u = false) : backF l s a = some w := by
  unfold backF
  rw [List.find?_eq_some_iff_getElem]
  obtain ⟨g1,g2⟩ := List.getElem?_eq_some_iff.1 hw
  refine ⟨h,i,g1,g2,fun j hj => ?_⟩
  have := hno j ((ofL l s)[j]) hj (by simp [show j < (ofL l s).length by omega])
  simp [this]
theorem back_none {l : List TWindow} {s a : Int} (hno : ∀ j u,j < (ofL l s).length → (ofL l s)[j]? = some u → holdW a u = false) : backF l s a = none := by
  unfold backF
  rw [List.find?_eq_none]
  intro x hx
  obtain ⟨j,hj⟩ := List.getElem?_of_mem hx
  simp [hno j x (List.getElem?_eq_some_iff.1 hj).1 hj]
def meetW (a b : TWindow) : Bool := ((meetOk (pSp a) (pSp b) && decide (a.space = b.space)) && winR a) && winR b
def meetsW (a b : List TWindow) : Bool := a.any fun x => b.any fun y => meetW x y
def clashW (a b : TWindow) : Bool := meetW a b || (((meetOk (vSp a) (vSp b) && decide (a.space = b.space)) && winR a) && winR b)
def OwnW (l : List TWindow) : Prop := ∀ (i j : Nat) a b,j < i → l[i]? = some a → l[j]? = some b → clashW a b = false
def w0W : TWindow := ⟨0,0,0,0⟩
def ownW (l : List TWindow) : Bool := (List.range l.length).all fun i => (List.range i).all fun j => !(clashW (l.getD i w0W) (l.getD j w0W))
theorem ownW_iff (l : List TWindow) : ownW l = true ↔ OwnW l := by
  unfold ownW OwnW
  simp only [List.all_eq_true,List.mem_range,Bool.not_eq_true']
  constructor
  · intro h i j a b hj ha hb
    have := h i (List.getElem?_eq_some_iff.1 ha).1 j hj
    rw [List.getD_eq_getElem?_getD,List.getD_eq_getElem?_getD,ha,hb] at this
    exact this
  · intro h i hi j hj
    rw [List.getD_eq_getElem?_getD,List.getD_eq_getElem?_getD,List.getElem?_eq_getElem hi,List.getElem?_eq_getElem (show j < l.length by omega)]
    exact h i j _ _ hj (List.getElem?_eq_getElem hi) (List.getElem?_eq_getElem (by omega))
theorem any_idx (s : List TWindow) (p : TWindow → Bool) : decide (0 ≤ idxI (s.findIdx? p)) = s.any p := by
  cases h : s.findIdx? p with
  | none =>
    rw [List.findIdx?_eq_none_iff] at h
    have : s.any p = false := by simpa using h
    rw [this]; rfl
  | some i =>
    rw [List.findIdx?_eq_some_iff_getElem] at h
    obtain ⟨hi,hp,_⟩ := h
    have : s.any p = true := List.any_eq_true.2 ⟨s[i],List.getElem_mem hi,hp⟩
    rw [this]; simp [idxI]
theorem any_take {α : Type} {l : List α} {p : α → Bool} {i : Nat} {e : α} (h : (l.take i).any p = false) (he : l[i]? = some e) (hp : p e = false) : (l.take (i + 1)).any p = false := by
  rw [List.take_add_one,he,List.any_append,h]; simp [hp]
theorem any_found {α : Type} {l : List α} {p : α → Bool} {i : Nat} {e : α} (he : l[i]? = some e) (hp : p e = true) : l.any p = true := List.any_eq_true.2 ⟨e,List.mem_of_getElem? he,hp⟩
theorem any_all {α : Type} {l : List α} {p : α → Bool} {i : Nat} (h : (l.take i).any p = false) (hi : l.length ≤ i) : l.any p = false := by rw [List.take_of_length_le hi] at h; exact h
theorem own_no {l : List TWindow} {i j : Nat} {a b : TWindow} (ha : l[i]? = some a) (hb : (l.take i)[j]? = some b) (h : clashW a b = true) : ownW l = false := by
  rw [Bool.eq_false_iff]
  intro ho0
  have ho := (ownW_iff l).1 ho0
  have hj : j < i := by
    have := (List.getElem?_eq_some_iff.1 hb).1
    simp at this; omega
  rw [List.getElem?_take_of_lt hj] at hb
  rw [ho i j a b hj ha hb] at h; cases h
theorem own_yes {l : List TWindow} (h : OwnW l) : ownW l = true := (ownW_iff l).2 h
theorem own_row {l : List TWindow} {i : Nat} {a : TWindow} (ha : l[i]? = some a) (h0 : ∀ (k j : Nat) x y,k < i → j < k → l[k]? = some x → l[j]? = some y → clashW x y = false) (h : ∀ j b,j < (l.take i).length → (l.take i)[j]? = some b → clashW a b = false) :
    ∀ (k j : Nat) x y,k < i + 1 → j < k → l[k]? = some x → l[j]? = some y → clashW x y = false := by
  intro k j x y hk hj hx hy
  by_cases hki : k < i
  · exact h0 k j x y hki hj hx hy
  · obtain rfl : k = i := by omega
    rw [ha] at hx; cases hx
    have hl := (List.getElem?_eq_some_iff.1 ha).1
    exact h j y (by simp; omega) (by rw [List.getElem?_take_of_lt hj]; exact hy)
end Go.Proofs.Ytljkbpgcglomfaa
set_option linter.unusedVariables false
set_option linter.unusedSimpArgs false
set_option maxRecDepth 10000
set_option maxHeartbeats 1000000
namespace Go.Proofs.Ytljkbpgcglomfaa
open Go Go.Proofs.Ytljkbpgcglomfaa.Pv
theorem w_window_virtual (w : TWindow)  :
    T Try.prog 44 [PV.f (eWindow w)] 0 [] (Ret (PV.f (eSpan (vSp w))) 0 []) := by
 refine t_fun tabOk (n := 8) (rs := [.cell 2 89]) Try.func44 rfl rfl rfl rfl (Nat.le_of_ble_eq_true rfl) ?_
 intro c hnt hk
 refine w_seq (w_R (qo hnt rfl (s_box rfl rfl ?_)))
 refine qo hnt rfl (s_alloc tab_89 ?_)
 refine r_set [(1,PV.ptr 0 0),(2,PV.ptr 1 0)] [(1,.obj [pI 0,pI 0]),(0,.obj (cWindow w))] 2 ⟨rfl,rfl,trivial⟩ rfl rfl (r_end (q_then (w_seq (w_R (qo hnt rfl (s_fa_ptr tab_28 rfl rfl tab_3 (by decide) rfl ?_))))))
 refine qo hnt rfl (s_load_ptr1 tab_3 rfl rfl rfl rfl rfl ?_)
 refine qo hnt rfl (s_fa_ptr tab_28 rfl rfl tab_3 (by decide) rfl ?_)
 refine qo hnt rfl (s_load_ptr1 tab_3 rfl rfl rfl rfl rfl ?_)
 refine qo hnt rfl (s_build tab_89 rfl rfl (b_cons rfl tab_3 rfl rfl rfl (Nat.le_of_ble_eq_true rfl) (b_cons rfl tab_3 rfl rfl rfl (Nat.le_of_ble_eq_true rfl) (b_nil ?_))))
 refine qo hnt rfl (s_store_ptr tab_89 rfl rfl rfl rfl rfl (Nat.le_of_ble_eq_true rfl) ?_)
 refine r_set [(2,PV.ptr 1 0)] [(1,.obj [pI w.virtual,pI w.count]),(0,.obj (cWindow w))] 2 ⟨rfl,trivial⟩ rfl rfl (r_end (q_then (w_leO (n := 1) (ds := cSpan (vSp w)) rfl ⟨le_of_eq (congrArg pI (show w.virtual = ((vSp w).at_) by rfl)),le_of_eq (congrArg pI (show w.count = ((vSp w).count) by rfl)),trivial⟩ (w_ret ?_))))
 exact fin_plain (ret_cell tab_89 (by decide) rfl rfl (Nat.le_of_ble_eq_true rfl) rfl ret_nil) rfl rfl ⟨rfl,rfl,rfl⟩
theorem w_window_physical (w : TWindow)  :
    T Try.prog 75 [PV.f (eWindow w)] 0 [] (Ret (PV.f (eSpan (pSp w))) 0 []) := by
 refine t_fun tabOk (n := 8) (rs := [.cell 2 89]) Try.func75 rfl rfl rfl rfl (Nat.le_of_ble_eq_true rfl) ?_
 intro c hnt hk
 refine w_seq (w_R (qo hnt rfl (s_box rfl rfl ?_)))
 refine qo hnt rfl (s_alloc tab_89 ?_)
 refine r_set [(1,PV.ptr 0 0),(2,PV.ptr 1 0)] [(1,.obj [pI 0,pI 0]),(0,.obj (cWindow w))] 2 ⟨rfl,rfl,trivial⟩ rfl rfl (r_end (q_then (w_seq (w_R (qo hnt rfl (s_fa_ptr tab_28 rfl rfl tab_3 (by decide) rfl ?_))))))
 refine qo hnt rfl (s_load_ptr1 tab_3 rfl rfl rfl rfl rfl ?_)
 refine qo hnt rfl (s_fa_ptr tab_28 rfl rfl tab_3 (by decide) rfl ?_)
 refine qo hnt rfl (s_load_ptr1 tab_3 rfl rfl rfl rfl rfl ?_)
 refine qo hnt rfl (s_build tab_89 rfl rfl (b_cons rfl tab_3 rfl rfl rfl (Nat.le_of_ble_eq_true rfl) (b_cons rfl tab_3 rfl rfl rfl (Nat.le_of_ble_eq_true rfl) (b_nil ?_))))
 refine qo hnt rfl (s_store_ptr tab_89 rfl rfl rfl rfl rfl (Nat.le_of_ble_eq_true rfl) ?_)
 refine r_set [(2,PV.ptr 1 0)] [(1,.obj [pI w.physical,pI w.count]),(0,.obj (cWindow w))] 2 ⟨rfl,trivial⟩ rfl rfl (r_end (q_then (w_leO (n := 1) (ds := cSpan (pSp w)) rfl ⟨le_of_eq (congrArg pI (show w.physical = ((pSp w).at_) by rfl)),le_of_eq (congrArg pI (show w.count = ((pSp w).count) by rfl)),trivial⟩ (w_ret ?_))))
 exact fin_plain (ret_cell tab_89 (by decide) rfl rfl (Nat.le_of_ble_eq_true rfl) rfl ret_nil) rfl rfl ⟨rfl,rfl,rfl⟩
theorem w_window_Right (w : TWindow)  :
    T Try.prog 36 [PV.f (eWindow w)] 0 [] (Ret (pB (winR w)) 0 []) := by
 refine t_fun tabOk (n := 21) (rs := [.tmp 2]) Try.func36 rfl rfl rfl rfl (Nat.le_of_ble_eq_true rfl) ?_
 intro c hnt hk
 refine w_seq (w_R (qo hnt rfl (s_box rfl rfl ?_)))
 refine qa hnt rfl rfl (r_set [(1,PV.ptr 0 0)] [(0,.obj (cWindow w))] 1 ⟨rfl,trivial⟩ rfl rfl (r_end (q_then (w_seq (w_R ?_)))))
 refine qo hnt rfl (s_fa_ptr tab_28 rfl rfl tab_3 (by decide) rfl ?_)
 refine qo hnt rfl (s_load_ptr1 tab_3 rfl rfl rfl rfl rfl ?_)
 refine qo hnt rfl (s_geq rfl rfl ?_)
 refine qm hnt rfl rfl (r_cut0 4 [(1,PV.ptr 0 0),(10,pB ((decide (0 ≤ w.space)) && (decide (w.space ≤ 3))))] ?_ ?_)
 ·refine r_if tabOk hnt rfl rfl rfl (fun g1 => ?_) (fun g1 => ?_)
  ·have g1' := g1
   try simp only [sB] at g1'
   refine qo hnt rfl (s_fa_ptr tab_28 rfl rfl tab_3 (by decide) rfl ?_)
   refine ry hnt rfl rfl rfl g1 (qo hnt rfl (s_load_ptr1 tab_3 rfl rfl rfl rfl rfl ?_))
   refine ry hnt rfl rfl rfl g1 (qo hnt rfl (s_leq rfl rfl ?_))
   refine qo hnt rfl (s_pick_t rfl g1 rfl ?_)
   refine r_eq (s := 10) (y := pB ((decide (0 ≤ w.space)) && (decide (w.space ≤ 3)))) rfl (mix_at g1) ?_
   exact r_mid ⟨⟨rfl,rfl,trivial⟩,rfl,rfl⟩
  ·have g1' := g1
   try simp only [sB] at g1'
   refine rn hnt rfl rfl rfl g1 (rn hnt rfl rfl rfl g1 (qo hnt rfl (s_pick_f rfl g1 rfl ?_)))
   refine r_eq (s := 10) (y := pB ((decide (0 ≤ w.space)) && (decide (w.space ≤ 3)))) rfl (mix_af _ g1) ?_
   exact r_mid ⟨⟨rfl,rfl,trivial⟩,rfl,rfl⟩
 ·refine qm hnt rfl rfl (r_cut0 4 [(1,PV.ptr 0 0),(15,pB (((decide (0 ≤ w.space)) && (decide (w.space ≤ 3))) && (spRight (vSp w) 65536)))] ?_ ?_)
  ·refine r_if tabOk hnt rfl rfl rfl (fun g2 => ?_) (fun g2 => ?_)
   ·have g2' := g2
    try simp only [sB] at g2'
    refine qo hnt rfl (s_load_ptr tab_28 rfl rfl rfl (Nat.le_of_ble_eq_true rfl) ?_)
    refine ry hnt rfl rfl rfl g2 (qo hnt rfl (s_callF rfl rfl rfl (w_window_virtual w) rfl ?_))
    refine ry hnt rfl rfl rfl g2 (qo hnt rfl (s_callF rfl rfl rfl (w_span_Right (vSp w) 65536 (by omega)) rfl ?_))
    refine qo hnt rfl (s_pick_t rfl g2 rfl ?_)
    refine r_eq (s := 15) (y := pB (((decide (0 ≤ w.space)) && (decide (w.space ≤ 3))) && (spRight (vSp w) 65536))) rfl (mix_at g2) ?_
    exact r_mid ⟨⟨rfl,rfl,trivial⟩,rfl,rfl⟩
   ·have g2' := g2
    try simp only [sB] at g2'
    refine rn hnt rfl rfl rfl g2 (rn hnt rfl rfl rfl g2 (qo hnt rfl (s_pick_f rfl g2 rfl ?_)))
    refine r_eq (s := 15) (y := pB (((decide (0 ≤ w.space)) && (decide (w.space ≤ 3))) && (spRight (vSp w) 65536))) rfl (mix_af _ g2) ?_
    exact r_mid ⟨⟨rfl,rfl,trivial⟩,rfl,rfl⟩
  ·refine qm hnt rfl rfl (r_cut0 4 [(20,pB ((((decide (0 ≤ w.space)) && (decide (w.space ≤ 3))) && (spRight (vSp w) 65536)) && (spRight (pSp w) 512)))] ?_ ?_)
   ·refine r_if tabOk hnt rfl rfl rfl (fun g3 => ?_) (fun g3 => ?_)
    ·have g3' := g3
     try simp only [sB] at g3'
     refine qo hnt rfl (s_load_ptr tab_28 rfl rfl rfl (Nat.le_of_ble_eq_true rfl) ?_)
     refine ry hnt rfl rfl rfl g3 (qo hnt rfl (s_callF rfl rfl rfl (w_window_physical w) rfl ?_))
     refine ry hnt rfl rfl rfl g3 (qo hnt rfl (s_callF rfl rfl rfl (w_span_Right (pSp w) 512 (by omega)) rfl ?_))
     refine qo hnt rfl (s_pick_t rfl g3 rfl ?_)
     refine r_eq (s := 20) (y := pB ((((decide (0 ≤ w.space)) && (decide (w.space ≤ 3))) && (spRight (vSp w) 65536)) && (spRight (pSp w) 512))) rfl (mix_at g3) ?_
     exact r_mid ⟨⟨rfl,trivial⟩,rfl,rfl⟩
    ·have g3' := g3
     try simp only [sB] at g3'
     refine rn hnt rfl rfl rfl g3 (rn hnt rfl rfl rfl g3 (qo hnt rfl (s_pick_f rfl g3 rfl ?_)))
     refine r_eq (s := 20) (y := pB ((((decide (0 ≤ w.space)) && (decide (w.space ≤ 3))) && (spRight (vSp w) 65536)) && (spRight (pSp w) 512))) rfl (mix_af _ g3) ?_
     exact r_mid ⟨⟨rfl,trivial⟩,rfl,rfl⟩
   ·refine qa hnt rfl rfl (r_end (q_then (w_le (s := 2) (y := pB (winR w)) rfl (le_of_eq (congrArg pB (show ((((decide (0 ≤ w.space)) && (decide (w.space ≤ 3))) && (spRight (vSp w) 65536)) && (spRight (pSp w) 512)) = (winR w) by rfl))) (w_ret ?_))))
    exact fin_plain (ret_tmp rfl ret_nil) rfl rfl ⟨rfl,rfl,rfl⟩
theorem w_window_of (l : List TWindow) (cl_l : Bool) (space : Int) (hl : l.length ≤ 1000) :
    T Try.prog 43 [pS 4 cl_l eWindow l,pI space] 0 [] (Ret (PV.ref 0 0 none) 1 [(0,oB true 4 eWindow (ofL l space))]) := by
 refine t_fun tabOk (n := 28) (rs := [.tmp 4]) Try.func43 rfl rfl rfl rfl (Nat.le_of_ble_eq_true rfl) ?_
 intro c hnt hk
 refine w_seq (w_R (qa hnt rfl rfl (r_end (q_then (w_seq ?_)))))
 refine w_R (qa hnt rfl rfl (r_end (q_then (w_seq (w_seq ?_)))))
 refine w_R (qm hnt rfl rfl (qo hnt rfl (s_lenM (l := l) tab_22 rfl (hM_sl (f := eWindow) rfl) ?_)))
 refine qm hnt rfl rfl (r_end (q_then (w_block (w_adopt (s := 5) (sz := 4) rfl (loop2 (fun (os : List TWindow) (i : Nat) => i ≤ l.length ∧ os = ofL (l.take i) space) (fun (os : List TWindow) (i : Nat) => [(1,pI space),(5,PV.ref 0 0 none),(8,pS 4 cl_l eWindow l),(9,pN l.length),(10,pN i)]) 1 (fun (os : List TWindow) (i : Nat) => [(0,oB true 4 eWindow os)]) (fun (os : List TWindow) (i : Nat) => l.length - i) (([] : List TWindow)) (0) ?_ ⟨[(0,0)],by rw [hk]; decide,⟨⟨_,rfl,rfl,rfl⟩,⟨_,rfl,rfl,rfl⟩,⟨_,rfl,rfl,rfl⟩,⟨_,rfl,rfl,rfl⟩,⟨_,rfl,rfl,rfl⟩,trivial⟩,⟨⟨_,_,rfl,rfl,rfl,rfl⟩,trivial⟩,by rw [hk]; decide⟩ ?_)))))
 · exact ⟨by omega,rfl⟩
 ·intro os i hI
  obtain ⟨hi,hos⟩ := hI
  have hol : os.length ≤ 1000 := by rw [hos]; exact Nat.le_trans (ofL_len _ _) (by simp; omega)
  refine w_seq (w_R (qo hnt rfl (s_lss rfl rfl ?_)))
  refine r_end (q_then (w_seq (w_if rfl (fun c1 => ?_) (fun c1 => ?_))))
  ·try simp only [sB] at c1
   refine w_skip (q_then (w_seq (w_block (w_seq (w_R ?_)))))
   obtain ⟨e1,he1⟩ := get_of_lt l (i := i) (by omega)
   refine qo hnt rfl (s_iaM (q := i) (b := e1) (f := eWindow) tab_22 rfl tab_28 rfl rfl (by omega) rfl he1 ?_)
   refine qo hnt rfl (s_load_ro tab_28 rfl rfl rfl ?_)
   refine qo hnt rfl (s_alloc tab_28 ?_)
   refine qo hnt rfl (s_store_ptr tab_28 rfl rfl rfl rfl rfl (Nat.le_of_ble_eq_true rfl) ?_)
   refine r_set [(1,pI space),(5,PV.ref 0 0 none),(7,PV.ptr 1 0),(8,pS 4 cl_l eWindow l),(9,pN l.length),(10,pN i)] [(1,.obj (cWindow e1)),(0,oB true 4 eWindow os)] 2 ⟨rfl,rfl,rfl,rfl,rfl,rfl,trivial⟩ rfl rfl (r_end (q_then (w_seq (w_R (qo hnt rfl (s_load_ptr tab_28 rfl rfl rfl (Nat.le_of_ble_eq_true rfl) ?_))))))
   refine qo hnt rfl (s_callF rfl rfl rfl (w_window_Right e1) rfl ?_)
   refine qm hnt rfl rfl (r_cut0 5 [(1,pI space),(5,PV.ref 0 0 none),(7,PV.ptr 1 0),(8,pS 4 cl_l eWindow l),(9,pN l.length),(10,pN i),(21,pB ((winR e1) && (decide (e1.space = space))))] ?_ ?_)
   ·refine r_if tabOk hnt rfl rfl rfl (fun g1 => ?_) (fun g1 => ?_)
    ·have g1' := g1
     try simp only [sB] at g1'
     refine qo hnt rfl (s_fa_ptr tab_28 rfl rfl tab_3 (by decide) rfl ?_)
     refine ry hnt rfl rfl rfl g1 (qo hnt rfl (s_load_ptr1 tab_3 rfl rfl rfl rfl rfl ?_))
     refine ry hnt rfl rfl rfl g1 (qm hnt rfl rfl (ry hnt rfl rfl rfl g1 (qo hnt rfl (s_eql rfl rfl ?_))))
     refine qo hnt rfl (s_pick_t rfl g1 rfl ?_)
     refine r_eq (s := 21) (y := pB ((winR e1) && (decide (e1.space = space)))) rfl (mix_at g1) ?_
     exact r_mid ⟨⟨rfl,rfl,rfl,rfl,rfl,rfl,rfl,trivial⟩,rfl,rfl⟩
    ·have g1' := g1
     try simp only [sB] at g1'
     refine rn hnt rfl rfl rfl g1 (rn hnt rfl rfl rfl g1 (rn hnt rfl rfl rfl g1 (qo hnt rfl (s_pick_f rfl g1 rfl ?_))))
     refine r_eq (s := 21) (y := pB ((winR e1) && (decide (e1.space = space)))) rfl (mix_af _ g1) ?_
     exact r_mid ⟨⟨rfl,rfl,rfl,rfl,rfl,rfl,rfl,trivial⟩,rfl,rfl⟩
   ·refine r_end (q_then (w_if rfl (fun c2 => ?_) (fun c2 => ?_)))
    ·have c2_ := c2
     try simp only [sB] at c2
     refine w_R (qm hnt rfl rfl (qo hnt rfl (s_load_ptr tab_28 rfl rfl rfl (Nat.le_of_ble_eq_true rfl) ?_)))
     refine qo hnt rfl (s_mkM (f := eWindow) [e1] tab_22 rfl tab_28 ⟨rfl,by decide⟩ (by decide) rfl rfl rfl rfl ?_)
     refine qo hnt rfl (s_appR0 (f := eWindow) (l := os) (xs := [e1]) tab_22 rfl tab_28 ⟨rfl,by decide,by decide⟩ (srcM tab_22 rfl (hM_ref0 (f := eWindow) rfl rfl)) rfl rfl (by (simp; omega)) ?_)
     refine qa hnt rfl rfl (r_set [(1,pI space),(5,PV.ref 3 0 none),(8,pS 4 cl_l eWindow l),(9,pN l.length),(10,pN i)] [(3,oB true 4 eWindow (os ++ [e1])),(2,oB true 4 eWindow [e1]),(1,.obj (cWindow e1))] 4 ⟨rfl,rfl,rfl,rfl,rfl,trivial⟩ rfl rfl (r_end (q_block (q_then (w_R ?_)))))
     refine qo hnt rfl (s_addN (a := i) (b := 1) rfl rfl (by omega) (by omega) (by omega) ?_)
     refine qm hnt rfl rfl (r_end (q_then (⟨(os ++ [e1]),(i + 1), ?_, ?_,⟨[(0,3)],by rw [hk]; decide,⟨⟨_,rfl,rfl,rfl⟩,⟨_,rfl,rfl,rfl⟩,⟨_,rfl,rfl,rfl⟩,⟨_,rfl,rfl,rfl⟩,⟨_,rfl,rfl,rfl⟩,trivial⟩,⟨⟨_,_,rfl,rfl,rfl,rfl⟩,trivial⟩,by rw [hk]; decide⟩⟩)))
     ·(exact ⟨by omega,by rw [hos]; exact of_snoc_t he1 c2_⟩)
     · omega
    have c2_ := c2
    try simp only [sB] at c2
    refine w_skip (q_block (q_then (w_R (qo hnt rfl (s_addN (a := i) (b := 1) rfl rfl (by omega) (by omega) (by omega) ?_)))))
    refine qm hnt rfl rfl (r_end (q_then (⟨(os),(i + 1), ?_, ?_,⟨[(0,0)],by rw [hk]; decide,⟨⟨_,rfl,rfl,rfl⟩,⟨_,rfl,rfl,rfl⟩,⟨_,rfl,rfl,rfl⟩,⟨_,rfl,rfl,rfl⟩,⟨_,rfl,rfl,rfl⟩,trivial⟩,⟨⟨_,_,rfl,rfl,rfl,rfl⟩,trivial⟩,by rw [hk]; decide⟩⟩)))
    ·(exact ⟨by omega,by rw [hos]; exact of_snoc_f he1 c2_⟩)
    · omega
  try simp only [sB] at c1
  have hoe : ofL (l.take i) space = ofL l space := by rw [List.take_of_length_le (by omega)]
  refine w_exit (q_then_exit (q_then_exit (q_block_exit (q_then (w_seq ?_)))))
  refine w_R (qm hnt rfl rfl (qa hnt rfl rfl (r_end (q_then (w_H (H' := [(0,oB true 4 eWindow (ofL l space))]) (congrArg (fun z => ([(0,oB true 4 eWindow z)] : Heap)) (show os = ofL l space by rw [hos,hoe])) ?_)))))
  refine w_ret ?_
  exact fin_names (nx1 := 1) (H1 := [(0,oB true 4 eWindow (ofL l space))]) [(0,0)] (ret_tmp rfl ret_nil) rfl (by decide) ⟨⟨_,_,rfl,rfl,rfl,rfl⟩,trivial⟩ (by decide) rfl ⟨rfl,rfl,rfl⟩
theorem w_window_Map_1 (s : TSpan) (pa : Int) (pc : Int)  :
    T Try.prog 47 [PV.f (eSpan s),PV.ptr 0 0] 1 [(0,.obj [pI pa,pI pc])] (Ret (pB (spIn ⟨pa,1⟩ s)) 1 [(0,.obj [pI pa,pI pc])]) := by
 refine t_fun tabOk (n := 9) (rs := [.tmp 3]) Try.func47 rfl rfl rfl rfl (Nat.le_of_ble_eq_true rfl) ?_
 intro c hnt hk
 refine w_seq (w_R (qo hnt rfl (s_box rfl rfl ?_)))
 refine qa hnt rfl rfl (r_set [(1,PV.ptr 0 0),(2,PV.ptr 1 0)] [(1,.obj (cSpan s)),(0,.obj [pI pa,pI pc])] 2 ⟨rfl,rfl,trivial⟩ rfl rfl (r_end (q_then (w_seq (w_R ?_)))))
 refine qo hnt rfl (s_fa_ptr tab_89 rfl rfl tab_3 (by decide) rfl ?_)
 refine qo hnt rfl (s_load_ptr1 tab_3 rfl rfl rfl rfl rfl ?_)
 refine qo hnt rfl (s_build tab_89 rfl rfl (b_cons rfl tab_3 rfl rfl rfl (Nat.le_of_ble_eq_true rfl) (b_cons rfl tab_3 rfl rfl rfl (Nat.le_of_ble_eq_true rfl) (b_nil ?_))))
 refine qo hnt rfl (s_load_ptr tab_89 rfl rfl rfl (Nat.le_of_ble_eq_true rfl) ?_)
 refine qo hnt rfl (s_callF rfl rfl rfl (w_span_In (⟨pa,1⟩ : TSpan) s) rfl ?_)
 refine qa hnt rfl rfl (r_end (q_then (w_le (s := 3) (y := pB (spIn ⟨pa,1⟩ s)) rfl (le_of_eq (congrArg pB (show (spIn (⟨pa,1⟩ : TSpan) s) = (spIn ⟨pa,1⟩ s) by simp [*]))) (w_ret ?_))))
 exact fin_names (nx1 := 1) (H1 := [(0,.obj [pI pa,pI pc])]) [(0,0)] (ret_tmp rfl ret_nil) rfl (by decide) ⟨⟨_,_,rfl,rfl,rfl,rfl⟩,trivial⟩ (by decide) rfl ⟨rfl,rfl,rfl⟩
theorem w_window_meet (a : TWindow) (b : TWindow)  :
    T Try.prog 51 [PV.f (eWindow a),PV.f (eWindow b)] 0 [] (Ret (pB (meetW a b)) 0 []) := by
 refine t_fun tabOk (n := 31) (rs := [.tmp 4]) Try.func51 rfl rfl rfl rfl (Nat.le_of_ble_eq_true rfl) ?_
 intro c hnt hk
 refine w_seq (w_R (qo hnt rfl (s_box rfl rfl ?_)))
 refine qo hnt rfl (s_box rfl rfl ?_)
 refine qa hnt rfl rfl (r_set [(2,PV.ptr 0 0),(3,PV.ptr 1 0)] [(1,.obj (cWindow b)),(0,.obj (cWindow a))] 2 ⟨rfl,rfl,trivial⟩ rfl rfl (r_end (q_then (w_seq (W_drawn tabOk mixed hnt [[],[0],[],[0,1,2],[0,1,2,3],[0,1,2,3,4],[0,1,2,3,4,5],[0,1,2,3,4,5],[],[0,1,2,3,4,5,6,8],(.range 10)] (by kernel_rfl) ?_)))))
 refine d_op (xL [(2,PV.ptr 0 0)] [] [(0,.obj (cWindow a))] rfl rfl rfl rfl rfl (s_load_ptr tab_28 rfl rfl rfl (Nat.le_of_ble_eq_true rfl) ⟨rfl,rfl,rfl⟩) ⟨rfl,trivial⟩ rfl (d_op (x_run0 [(8,PV.f (eWindow a))] [0] rfl rfl rfl rfl (s_callF rfl rfl rfl (w_window_physical a) rfl ⟨rfl,rfl,rfl⟩) (d_op (xL [(3,PV.ptr 1 0)] [] [(1,.obj (cWindow b))] rfl rfl rfl rfl rfl (s_load_ptr tab_28 rfl rfl rfl (Nat.le_of_ble_eq_true rfl) ⟨rfl,rfl,rfl⟩) ⟨rfl,trivial⟩ rfl ?_)))))
 refine d_op (x_run0 [(10,PV.f (eWindow b))] [0,1,2] rfl rfl rfl rfl (s_callF rfl rfl rfl (w_window_physical b) rfl ⟨rfl,rfl,rfl⟩) (d_op (x_run0 [(9,PV.f (eSpan (pSp a))),(11,PV.f (eSpan (pSp b)))] [0,1,2,3] rfl rfl rfl rfl (s_callF rfl rfl rfl (w_span_Meet (pSp a) (pSp b)) rfl ⟨rfl,rfl,rfl⟩) (d_op (x_run0 [(12,PV.tup [PV.f (eSpan (meetV (pSp a) (pSp b))),pB (meetOk (pSp a) (pSp b))])] [0,1,2,3,4] rfl rfl rfl rfl (s_move rfl ⟨rfl,rfl,rfl⟩) ?_)))))
 refine d_op (x_run0 [(7,PV.tup [PV.f (eSpan (meetV (pSp a) (pSp b))),pB (meetOk (pSp a) (pSp b))])] [0,1,2,3,4,5] rfl rfl rfl rfl (s_extract rfl rfl ⟨rfl,rfl,rfl⟩) (d_op (x_run0 [(7,PV.tup [PV.f (eSpan (meetV (pSp a) (pSp b))),pB (meetOk (pSp a) (pSp b))])] [0,1,2,3,4,5] rfl rfl rfl rfl (s_extract rfl rfl ⟨rfl,rfl,rfl⟩) (d_op (xT [] [] [] [(2,.obj [pI 0,pI 0])] [(1,.obj (cWindow b)),(0,.obj (cWindow a))] rfl rfl rfl rfl rfl (s_alloc tab_89 ⟨rfl,rfl,rfl⟩) rfl rfl ?_)))))
 refine d_op (xT [(5,PV.ptr 2 0),(13,PV.f (eSpan (meetV (pSp a) (pSp b))))] [0,1,2,3,4,5,6,8] [(2,.obj [pI 0,pI 0])] [(2,.obj (cSpan (meetV (pSp a) (pSp b))))] [(1,.obj (cWindow b)),(0,.obj (cWindow a))] rfl rfl rfl rfl rfl (s_store_ptr tab_89 rfl rfl rfl rfl rfl (Nat.le_of_ble_eq_true rfl) ⟨rfl,rfl,rfl⟩) rfl rfl (d_op (x_run0 [(14,pB (meetOk (pSp a) (pSp b)))] (.range 10) rfl rfl rfl rfl (s_assign rfl ⟨rfl,rfl,rfl⟩) (d_end ⟨by kernel_rfl, ?_⟩))))
 refine q_then (w_seq (w_R (qm hnt rfl rfl (qm hnt rfl rfl (r_cut0 6 [(2,PV.ptr 0 0),(3,PV.ptr 1 0),(22,pB ((meetOk (pSp a) (pSp b)) && (decide (a.space = b.space))))] ?_ ?_)))))
 ·refine r_if tabOk hnt rfl rfl rfl (fun g1 => ?_) (fun g1 => ?_)
  ·have g1' := g1
   try simp only [sB] at g1'
   refine qo hnt rfl (s_fa_ptr tab_28 rfl rfl tab_3 (by decide) rfl ?_)
   refine ry hnt rfl rfl rfl g1 (qo hnt rfl (s_load_ptr1 tab_3 rfl rfl rfl rfl rfl ?_))
   refine ry hnt rfl rfl rfl g1 (qo hnt rfl (s_fa_ptr tab_28 rfl rfl tab_3 (by decide) rfl ?_))
   refine ry hnt rfl rfl rfl g1 (qo hnt rfl (s_load_ptr1 tab_3 rfl rfl rfl rfl rfl ?_))
   refine ry hnt rfl rfl rfl g1 (qo hnt rfl (s_eql rfl rfl ?_))
   refine qo hnt rfl (s_pick_t rfl g1 rfl ?_)
   refine r_eq (s := 22) (y := pB ((meetOk (pSp a) (pSp b)) && (decide (a.space = b.space)))) rfl (mix_at g1) ?_
   exact r_mid ⟨⟨rfl,rfl,rfl,trivial⟩,rfl,rfl⟩
  ·have g1' := g1
   try simp only [sB] at g1'
   refine rn hnt rfl rfl rfl g1 (rn hnt rfl rfl rfl g1 (rn hnt rfl rfl rfl g1 (rn hnt rfl rfl rfl g1 (qo hnt rfl (s_pick_f rfl g1 rfl ?_)))))
   refine r_eq (s := 22) (y := pB ((meetOk (pSp a) (pSp b)) && (decide (a.space = b.space)))) rfl (mix_af _ g1) ?_
   exact r_mid ⟨⟨rfl,rfl,rfl,trivial⟩,rfl,rfl⟩
 ·refine qm hnt rfl rfl (r_cut0 3 [(3,PV.ptr 1 0),(26,pB (((meetOk (pSp a) (pSp b)) && (decide (a.space = b.space))) && (winR a)))] ?_ ?_)
  ·refine r_if tabOk hnt rfl rfl rfl (fun g2 => ?_) (fun g2 => ?_)
   ·have g2' := g2
    try simp only [sB] at g2'
    refine qo hnt rfl (s_load_ptr tab_28 rfl rfl rfl (Nat.le_of_ble_eq_true rfl) ?_)
    refine ry hnt rfl rfl rfl g2 (qo hnt rfl (s_callF rfl rfl rfl (w_window_Right a) rfl ?_))
    refine qo hnt rfl (s_pick_t rfl g2 rfl ?_)
    refine r_eq (s := 26) (y := pB (((meetOk (pSp a) (pSp b)) && (decide (a.space = b.space))) && (winR a))) rfl (mix_at g2) ?_
    exact r_mid ⟨⟨rfl,rfl,trivial⟩,rfl,rfl⟩
   ·have g2' := g2
    try simp only [sB] at g2'
    refine rn hnt rfl rfl rfl g2 (qo hnt rfl (s_pick_f rfl g2 rfl ?_))
    refine r_eq (s := 26) (y := pB (((meetOk (pSp a) (pSp b)) && (decide (a.space = b.space))) && (winR a))) rfl (mix_af _ g2) ?_
    exact r_mid ⟨⟨rfl,rfl,trivial⟩,rfl,rfl⟩
  ·refine qm hnt rfl rfl (r_cut0 3 [(30,pB ((((meetOk (pSp a) (pSp b)) && (decide (a.space = b.space))) && (winR a)) && (winR b)))] ?_ ?_)
   ·refine r_if tabOk hnt rfl rfl rfl (fun g3 => ?_) (fun g3 => ?_)
    ·have g3' := g3
     try simp only [sB] at g3'
     refine qo hnt rfl (s_load_ptr tab_28 rfl rfl rfl (Nat.le_of_ble_eq_true rfl) ?_)
     refine ry hnt rfl rfl rfl g3 (qo hnt rfl (s_callF rfl rfl rfl (w_window_Right b) rfl ?_))
     refine qo hnt rfl (s_pick_t rfl g3 rfl ?_)
     refine r_eq (s := 30) (y := pB ((((meetOk (pSp a) (pSp b)) && (decide (a.space = b.space))) && (winR a)) && (winR b))) rfl (mix_at g3) ?_
     exact r_mid ⟨⟨rfl,trivial⟩,rfl,rfl⟩
    ·have g3' := g3
     try simp only [sB] at g3'
     refine rn hnt rfl rfl rfl g3 (qo hnt rfl (s_pick_f rfl g3 rfl ?_))
     refine r_eq (s := 30) (y := pB ((((meetOk (pSp a) (pSp b)) && (decide (a.space = b.space))) && (winR a)) && (winR b))) rfl (mix_af _ g3) ?_
     exact r_mid ⟨⟨rfl,trivial⟩,rfl,rfl⟩
   ·refine qa hnt rfl rfl (r_end (q_then (w_le (s := 4) (y := pB (meetW a b)) rfl (le_of_eq (congrArg pB (show ((((meetOk (pSp a) (pSp b)) && (decide (a.space = b.space))) && (winR a)) && (winR b)) = (meetW a b) by rfl))) (w_ret ?_))))
    exact fin_plain (ret_tmp rfl ret_nil) rfl rfl ⟨rfl,rfl,rfl⟩
theorem w_window_Meets_1 (y : TWindow) (sx : Int) (vx : Int) (px : Int) (cx : Int)  :
    T Try.prog 78 [PV.f (eWindow y),PV.ptr 0 0] 1 [(0,.obj [pI sx,pI vx,pI px,pI cx])] (Ret (pB (meetW ⟨sx,vx,px,cx⟩ y)) 1 [(0,.obj [pI sx,pI vx,pI px,pI cx])]) := by
 refine t_fun tabOk (n := 7) (rs := [.tmp 3]) Try.func78 rfl rfl rfl rfl (Nat.le_of_ble_eq_true rfl) ?_
 intro c hnt hk
 refine w_seq (w_R (qo hnt rfl (s_box rfl rfl ?_)))
 refine qa hnt rfl rfl (r_set [(1,PV.ptr 0 0),(2,PV.ptr 1 0)] [(1,.obj (cWindow y)),(0,.obj [pI sx,pI vx,pI px,pI cx])] 2 ⟨rfl,rfl,trivial⟩ rfl rfl (r_end (q_then (w_seq (w_R ?_)))))
 refine qo hnt rfl (s_load_ptr tab_28 rfl rfl rfl (Nat.le_of_ble_eq_true rfl) ?_)
 refine qo hnt rfl (s_load_ptr tab_28 rfl rfl rfl (Nat.le_of_ble_eq_true rfl) ?_)
 refine qo hnt rfl (s_callF rfl rfl rfl (w_window_meet (⟨sx,vx,px,cx⟩ : TWindow) y) rfl ?_)
 refine qa hnt rfl rfl (r_end (q_then (w_le (s := 3) (y := pB (meetW ⟨sx,vx,px,cx⟩ y)) rfl (le_of_eq (congrArg pB (show (meetW (⟨sx,vx,px,cx⟩ : TWindow) y) = (meetW ⟨sx,vx,px,cx⟩ y) by simp [*]))) (w_ret ?_))))
 exact fin_names (nx1 := 1) (H1 := [(0,.obj [pI sx,pI vx,pI px,pI cx])]) [(0,0)] (ret_tmp rfl ret_nil) rfl (by decide) ⟨⟨_,_,rfl,rfl,rfl,rfl⟩,trivial⟩ (by decide) rfl ⟨rfl,rfl,rfl⟩
theorem w_slices_IndexFunc_span_Span_span_Span_c3 (s : List TSpan) (cl_s : Bool) (pa : Int) (pc : Int) (hs : s.length ≤ 140737488351232) :
    T Try.prog 46 [pS 2 cl_s eSpan s,PV.clo (.func 47) [PV.ptr 0 0]] 1 [(0,.obj [pI pa,pI pc])] (Ret (pI (idxI (s.findIdx? fun x => (spIn ⟨pa,1⟩ x)))) 1 [(0,.obj [pI pa,pI pc])]) := by
 refine t_fun tabOk (n := 19) (rs := [.tmp 4]) Try.func46 rfl rfl rfl rfl (Nat.le_of_ble_eq_true rfl) ?_
 intro c hnt hk
 refine w_seq (w_R (qa hnt rfl rfl (r_end (q_then (w_seq ?_)))))
 refine w_seq (w_R (qm hnt rfl rfl (qo hnt rfl (s_lenM (l := s) tab_87 rfl (hM_sl (f := eSpan) rfl) ?_))))
 refine qm hnt rfl rfl (r_end (q_then (w_block (loop1 (fun (i : Nat) => i ≤ s.length ∧ ∀ j x,j < i → s[j]? = some x → (spIn ⟨pa,1⟩ x) = false) (fun (i : Nat) => [(0,pS 2 cl_s eSpan s),(1,PV.clo (.func 47) [PV.ptr 0 0]),(7,pN s.length),(8,pN i)]) 1 (fun (i : Nat) => [(0,.obj [pI pa,pI pc])]) (fun (i : Nat) => s.length - i) (0) ?_ ⟨[(0,0)],by rw [hk]; decide,⟨⟨_,rfl,rfl,rfl⟩,⟨_,rfl,rfl,rfl⟩,⟨_,rfl,rfl,rfl⟩,⟨_,rfl,rfl,rfl⟩,trivial⟩,⟨⟨_,_,rfl,rfl,rfl,rfl⟩,trivial⟩,by rw [hk]; decide⟩ ?_))))
 · exact ⟨Nat.zero_le _,fun j x hj => by omega⟩
 ·intro i hI
  obtain ⟨hi,ht⟩ := hI
  refine w_seq (w_R (qo hnt rfl (s_lss rfl rfl ?_)))
  refine r_end (q_then (w_seq (w_if rfl (fun c1 => ?_) (fun c1 => ?_))))
  ·try simp only [sB] at c1
   refine w_skip (q_then (w_seq (w_block (w_seq (w_R ?_)))))
   refine qm hnt rfl rfl (qa hnt rfl rfl (r_end (q_then (w_seq (w_R ?_)))))
   refine qm hnt rfl rfl (qm hnt rfl rfl (qm hnt rfl rfl ?_))
   obtain ⟨e1,he1⟩ := get_of_lt s (i := i) (by omega)
   refine qo hnt rfl (s_iaM (q := i) (b := e1) (f := eSpan) tab_87 rfl tab_89 rfl rfl (by omega) rfl he1 ?_)
   refine qo hnt rfl (s_load_ro tab_89 rfl rfl rfl ?_)
   refine qo hnt rfl (s_callX (r2 := pB (spIn ⟨pa,1⟩ e1)) (nx1 := 1) (H2 := [(0,.obj [pI pa,pI pc])]) (H3 := [(0,.obj [pI pa,pI pc])]) [0] [.obj [pI pa,pI pc]] rfl rfl rfl (handed_of (by decide) ⟨rfl,trivial⟩) rfl rfl rfl rfl rfl rfl (w_window_Map_1 e1 pa pc) rfl (dist_of rfl) rfl rfl rfl rfl ?_)
   refine r_set [(0,pS 2 cl_s eSpan s),(1,PV.clo (.func 47) [PV.ptr 0 0]),(5,pN i),(7,pN s.length),(8,pN i),(16,pB (spIn ⟨pa,1⟩ e1))] [(0,.obj [pI pa,pI pc])] 1 ⟨rfl,rfl,rfl,rfl,rfl,rfl,trivial⟩ rfl rfl (r_end (q_then (w_if rfl (fun c2 => ?_) (fun c2 => ?_))))
   ·have c2_ := c2
    try simp only [sB] at c2
    refine w_seq (w_R (qm hnt rfl rfl (qa hnt rfl rfl (r_end (q_then ?_)))))
    refine w_le (s := 4) (y := pI (idxI (s.findIdx? fun x => (spIn ⟨pa,1⟩ x)))) rfl (le_of_eq (congrArg pI (show ((i : Nat) : Int) = (idxI (s.findIdx? fun x => (spIn ⟨pa,1⟩ x))) by rw [find_step (p := fun x => (spIn ⟨pa,1⟩ x)) ht he1 c2_]))) (w_ret (q_block_ret (q_then_ret (q_then_ret (q_block_ret ?_)))))
    refine q_then_ret ?_
    exact fin_names (nx1 := 1) (H1 := [(0,.obj [pI pa,pI pc])]) [(0,0)] (ret_tmp rfl ret_nil) rfl (by decide) ⟨⟨_,_,rfl,rfl,rfl,rfl⟩,trivial⟩ (by decide) rfl ⟨rfl,rfl,rfl⟩
   have c2_ := c2
   try simp only [sB] at c2
   refine w_skip (q_block (q_then (w_R (qo hnt rfl (s_addN (a := i) (b := 1) rfl rfl (by omega) (by omega) (by omega) ?_)))))
   refine qm hnt rfl rfl (r_end (q_then (⟨(i + 1), ?_, ?_,⟨[(0,0)],by rw [hk]; decide,⟨⟨_,rfl,rfl,rfl⟩,⟨_,rfl,rfl,rfl⟩,⟨_,rfl,rfl,rfl⟩,⟨_,rfl,rfl,rfl⟩,trivial⟩,⟨⟨_,_,rfl,rfl,rfl,rfl⟩,trivial⟩,by rw [hk]; decide⟩⟩)))
   ·refine ⟨by omega,fun j x hj hx => ?_⟩
    by_cases hji : j < i
    · exact ht j x hji hx
    · obtain rfl : j = i := by omega
      rw [he1] at hx; cases hx; exact c2_
   · omega
  try simp only [sB] at c1
  refine w_exit (q_then_exit (q_then_exit (q_block_exit (q_then (w_seq ?_)))))
  refine w_R (qa hnt rfl rfl (r_end (q_then (w_le (s := 4) (y := pI (idxI (s.findIdx? fun x => (spIn ⟨pa,1⟩ x)))) rfl (le_of_eq (congrArg pI (show (-1) = (idxI (s.findIdx? fun x => (spIn ⟨pa,1⟩ x))) by rw [find_none (p := fun x => (spIn ⟨pa,1⟩ x)) (fun j x hj hx => ht j x (by omega) hx)]))) (w_ret ?_)))))
  exact fin_names (nx1 := 1) (H1 := [(0,.obj [pI pa,pI pc])]) [(0,0)] (ret_tmp rfl ret_nil) rfl (by decide) ⟨⟨_,_,rfl,rfl,rfl,rfl⟩,trivial⟩ (by decide) rfl ⟨rfl,rfl,rfl⟩
theorem w_slices_IndexFunc_api_Window_api_Window_c4 (s : List TWindow) (cl_s : Bool) (sx : Int) (vx : Int) (px : Int) (cx : Int) (hs : s.length ≤ 140737488351232) :
    T Try.prog 105 [pS 4 cl_s eWindow s,PV.clo (.func 78) [PV.ptr 0 0]] 1 [(0,.obj [pI sx,pI vx,pI px,pI cx])] (Ret (pI (idxI (s.findIdx? fun x => (meetW ⟨sx,vx,px,cx⟩ x)))) 1 [(0,.obj [pI sx,pI vx,pI px,pI cx])]) := by
 refine t_fun tabOk (n := 19) (rs := [.tmp 4]) Try.func105 rfl rfl rfl rfl (Nat.le_of_ble_eq_true rfl) ?_
 intro c hnt hk
 refine w_seq (w_R (qa hnt rfl rfl (r_end (q_then (w_seq ?_)))))
 refine w_seq (w_R (qm hnt rfl rfl (qo hnt rfl (s_lenM (l := s) tab_22 rfl (hM_sl (f := eWindow) rfl) ?_))))
 refine qm hnt rfl rfl (r_end (q_then (w_block (loop1 (fun (i : Nat) => i ≤ s.length ∧ ∀ j x,j < i → s[j]? = some x → (meetW ⟨sx,vx,px,cx⟩ x) = false) (fun (i : Nat) => [(0,pS 4 cl_s eWindow s),(1,PV.clo (.func 78) [PV.ptr 0 0]),(7,pN s.length),(8,pN i)]) 1 (fun (i : Nat) => [(0,.obj [pI sx,pI vx,pI px,pI cx])]) (fun (i : Nat) => s.length - i) (0) ?_ ⟨[(0,0)],by rw [hk]; decide,⟨⟨_,rfl,rfl,rfl⟩,⟨_,rfl,rfl,rfl⟩,⟨_,rfl,rfl,rfl⟩,⟨_,rfl,rfl,rfl⟩,trivial⟩,⟨⟨_,_,rfl,rfl,rfl,rfl⟩,trivial⟩,by rw [hk]; decide⟩ ?_))))
 · exact ⟨Nat.zero_le _,fun j x hj => by omega⟩
 ·intro i hI
  obtain ⟨hi,ht⟩ := hI
  refine w_seq (w_R (qo hnt rfl (s_lss rfl rfl ?_)))
  refine r_end (q_then (w_seq (w_if rfl (fun c1 => ?_) (fun c1 => ?_))))
  ·try simp only [sB] at c1
   refine w_skip (q_then (w_seq (w_block (w_seq (w_R ?_)))))
   refine qm hnt rfl rfl (qa hnt rfl rfl (r_end (q_then (w_seq (w_R ?_)))))
   refine qm hnt rfl rfl (qm hnt rfl rfl (qm hnt rfl rfl ?_))
   obtain ⟨e1,he1⟩ := get_of_lt s (i := i) (by omega)
   refine qo hnt rfl (s_iaM (q := i) (b := e1) (f := eWindow) tab_22 rfl tab_28 rfl rfl (by omega) rfl he1 ?_)
   refine qo hnt rfl (s_load_ro tab_28 rfl rfl rfl ?_)
   refine qo hnt rfl (s_callX (r2 := pB (meetW ⟨sx,vx,px,cx⟩ e1)) (nx1 := 1) (H2 := [(0,.obj [pI sx,pI vx,pI px,pI cx])]) (H3 := [(0,.obj [pI sx,pI vx,pI px,pI cx])]) [0] [.obj [pI sx,pI vx,pI px,pI cx]] rfl rfl rfl (handed_of (by decide) ⟨rfl,trivial⟩) rfl rfl rfl rfl rfl rfl (w_window_Meets_1 e1 sx vx px cx) rfl (dist_of rfl) rfl rfl rfl rfl ?_)
   refine r_set [(0,pS 4 cl_s eWindow s),(1,PV.clo (.func 78) [PV.ptr 0 0]),(5,pN i),(7,pN s.length),(8,pN i),(16,pB (meetW ⟨sx,vx,px,cx⟩ e1))] [(0,.obj [pI sx,pI vx,pI px,pI cx])] 1 ⟨rfl,rfl,rfl,rfl,rfl,rfl,trivial⟩ rfl rfl (r_end (q_then (w_if rfl (fun c2 => ?_) (fun c2 => ?_))))
   ·have c2_ := c2
    try simp only [sB] at c2
    refine w_seq (w_R (qm hnt rfl rfl (qa hnt rfl rfl (r_end (q_then ?_)))))
    refine w_le (s := 4) (y := pI (idxI (s.findIdx? fun x => (meetW ⟨sx,vx,px,cx⟩ x)))) rfl (le_of_eq (congrArg pI (show ((i : Nat) : Int) = (idxI (s.findIdx? fun x => (meetW ⟨sx,vx,px,cx⟩ x))) by rw [find_step (p := fun x => (meetW ⟨sx,vx,px,cx⟩ x)) ht he1 c2_]))) (w_ret (q_block_ret (q_then_ret (q_then_ret (q_block_ret ?_)))))
    refine q_then_ret ?_
    exact fin_names (nx1 := 1) (H1 := [(0,.obj [pI sx,pI vx,pI px,pI cx])]) [(0,0)] (ret_tmp rfl ret_nil) rfl (by decide) ⟨⟨_,_,rfl,rfl,rfl,rfl⟩,trivial⟩ (by decide) rfl ⟨rfl,rfl,rfl⟩
   have c2_ := c2
   try simp only [sB] at c2
   refine w_skip (q_block (q_then (w_R (qo hnt rfl (s_addN (a := i) (b := 1) rfl rfl (by omega) (by omega) (by omega) ?_)))))
   refine qm hnt rfl rfl (r_end (q_then (⟨(i + 1), ?_, ?_,⟨[(0,0)],by rw [hk]; decide,⟨⟨_,rfl,rfl,rfl⟩,⟨_,rfl,rfl,rfl⟩,⟨_,rfl,rfl,rfl⟩,⟨_,rfl,rfl,rfl⟩,trivial⟩,⟨⟨_,_,rfl,rfl,rfl,rfl⟩,trivial⟩,by rw [hk]; decide⟩⟩)))
   ·refine ⟨by omega,fun j x hj hx => ?_⟩
    by_cases hji : j < i
    · exact ht j x hji hx
    · obtain rfl : j = i := by omega
      rw [he1] at hx; cases hx; exact c2_
   · omega
  try simp only [sB] at c1
  refine w_exit (q_then_exit (q_then_exit (q_block_exit (q_then (w_seq ?_)))))
  refine w_R (qa hnt rfl rfl (r_end (q_then (w_le (s := 4) (y := pI (idxI (s.findIdx? fun x => (meetW ⟨sx,vx,px,cx⟩ x)))) rfl (le_of_eq (congrArg pI (show (-1) = (idxI (s.findIdx? fun x => (meetW ⟨sx,vx,px,cx⟩ x))) by rw [find_none (p := fun x => (meetW ⟨sx,vx,px,cx⟩ x)) (fun j x hj hx => ht j x (by omega) hx)]))) (w_ret ?_)))))
  exact fin_names (nx1 := 1) (H1 := [(0,.obj [pI sx,pI vx,pI px,pI cx])]) [(0,0)] (ret_tmp rfl ret_nil) rfl (by decide) ⟨⟨_,_,rfl,rfl,rfl,rfl⟩,trivial⟩ (by decide) rfl ⟨rfl,rfl,rfl⟩
theorem w_slices_ContainsFunc_api_Window_api_Window_c4 (s : List TWindow) (cl_s : Bool) (sx : Int) (vx : Int) (px : Int) (cx : Int) (hs : s.length ≤ 140737488351232) :
    T Try.prog 77 [pS 4 cl_s eWindow s,PV.clo (.func 78) [PV.ptr 0 0]] 1 [(0,.obj [pI sx,pI vx,pI px,pI cx])] (Ret (pB (s.any fun x => meetW ⟨sx,vx,px,cx⟩ x)) 1 [(0,.obj [pI sx,pI vx,pI px,pI cx])]) := by
 refine t_fun tabOk (n := 9) (rs := [.tmp 4]) Try.func77 rfl rfl rfl rfl (Nat.le_of_ble_eq_true rfl) ?_
 intro c hnt hk
 refine w_seq (w_R (qa hnt rfl rfl (r_end (q_then (w_seq ?_)))))
 refine w_R (qm hnt rfl rfl (qm hnt rfl rfl (qo hnt rfl (s_callX (r2 := pI (idxI (s.findIdx? fun x => (meetW ⟨sx,vx,px,cx⟩ x)))) (nx1 := 1) (H2 := [(0,.obj [pI sx,pI vx,pI px,pI cx])]) (H3 := [(0,.obj [pI sx,pI vx,pI px,pI cx])]) [0] [.obj [pI sx,pI vx,pI px,pI cx]] rfl rfl rfl (handed_of (by decide) ⟨rfl,trivial⟩) rfl rfl rfl rfl rfl rfl (w_slices_IndexFunc_api_Window_api_Window_c4 s cl_s sx vx px cx (by omega)) rfl (dist_of rfl) rfl rfl rfl rfl ?_))))
 refine qo hnt rfl (s_geq rfl rfl ?_)
 refine qa hnt rfl rfl (r_set [(4,pB (decide (0 ≤ idxI (s.findIdx? fun x => (meetW ⟨sx,vx,px,cx⟩ x)))))] [(0,.obj [pI sx,pI vx,pI px,pI cx])] 1 ⟨rfl,trivial⟩ rfl rfl (r_end (q_then (w_le (s := 4) (y := pB (s.any fun x => meetW ⟨sx,vx,px,cx⟩ x)) rfl (le_of_eq (congrArg pB (show (decide (0 ≤ idxI (s.findIdx? fun x => (meetW ⟨sx,vx,px,cx⟩ x)))) = (s.any fun x => meetW ⟨sx,vx,px,cx⟩ x) by exact any_idx s _))) (w_ret ?_)))))
 exact fin_names (nx1 := 1) (H1 := [(0,.obj [pI sx,pI vx,pI px,pI cx])]) [(0,0)] (ret_tmp rfl ret_nil) rfl (by decide) ⟨⟨_,_,rfl,rfl,rfl,rfl⟩,trivial⟩ (by decide) rfl ⟨rfl,rfl,rfl⟩
theorem w_window_Map (l : List TWindow) (cl_l : Bool) (space : Int) (a : Int) (n : Int) (hl : l.length ≤ 1000) :
    T Try.prog 16 [pS 4 cl_l eWindow l,pI space,pI a,pI n] 0 [] (Ret (PV.tup [pS 3 true ePiece (mapL l space a n),pB (mapOk l space a n)]) 0 []) := by
 refine t_fun tabOk (n := 78) (rs := [.tmp 8,.tmp 9]) Try.func16 rfl rfl rfl rfl (Nat.le_of_ble_eq_true rfl) ?_
 intro c hnt hk
 refine w_seq (w_R (qa hnt rfl rfl (qa hnt rfl rfl (r_end (q_then ?_)))))
 refine w_seq (w_R (qm hnt rfl rfl (qm hnt rfl rfl (qo hnt rfl (s_callX (r2 := PV.ref 0 0 none) (nx1 := 1) (H2 := []) (H3 := [(0,oB true 4 eWindow (ofL l space))]) [] [] rfl rfl rfl (handed_of (by decide) trivial) rfl rfl rfl rfl rfl rfl (w_window_of l cl_l space (by omega)) rfl (dist_of rfl) rfl rfl rfl rfl ?_)))))
 refine qa hnt rfl rfl (r_set [(2,pI a),(3,pI n),(10,PV.ref 0 0 none)] [(0,oB true 4 eWindow (ofL l space))] 1 ⟨rfl,rfl,rfl,trivial⟩ rfl rfl (r_end (q_then (w_seq (w_R ?_)))))
 refine qa hnt rfl rfl (r_end (q_then (w_seq (w_seq ?_))))
 have hle := ofL_len l space
 refine w_R (qm hnt rfl rfl (qo hnt rfl (s_lenM (l := ofL l space) tab_22 rfl (hM_ref0 (f := eWindow) rfl rfl) ?_)))
 refine qm hnt rfl rfl (r_end (q_then (w_block (w_adopt (s := 11) (sz := 2) rfl (loop2 (fun (os : List TSpan) (i : Nat) => i ≤ (ofL l space).length ∧ os = ((ofL l space).take i).map vSp) (fun (os : List TSpan) (i : Nat) => [(2,pI a),(3,pI n),(10,PV.ref 1 0 none),(11,PV.ref 0 0 none),(23,PV.ref 1 0 none),(24,pN ((ofL l space).length)),(25,pN i)]) 2 (fun (os : List TSpan) (i : Nat) => [(0,oB true 2 eSpan os),(1,oB true 4 eWindow (ofL l space))]) (fun (os : List TSpan) (i : Nat) => (ofL l space).length - i) (([] : List TSpan)) (0) ?_ ⟨[(0,1),(1,0)],by rw [hk]; decide,⟨⟨_,rfl,rfl,rfl⟩,⟨_,rfl,rfl,rfl⟩,⟨_,rfl,rfl,rfl⟩,⟨_,rfl,rfl,rfl⟩,⟨_,rfl,rfl,rfl⟩,⟨_,rfl,rfl,rfl⟩,⟨_,rfl,rfl,rfl⟩,trivial⟩,⟨⟨_,_,rfl,rfl,rfl,rfl⟩,⟨_,_,rfl,rfl,rfl,rfl⟩,trivial⟩,by rw [hk]; decide⟩ ?_)))))
 · exact ⟨by omega,rfl⟩
 ·intro os i hI
  obtain ⟨hi,hos⟩ := hI
  have hol : os.length ≤ 1000 := by rw [hos]; simp; omega
  refine w_seq (w_R (qo hnt rfl (s_lss rfl rfl ?_)))
  refine r_end (q_then (w_seq (w_if rfl (fun c1 => ?_) (fun c1 => ?_))))
  ·try simp only [sB] at c1
   refine w_skip (q_then (w_seq (w_block (w_seq (w_R ?_)))))
   refine qo hnt rfl (s_iaR0 (q := i) (f := eWindow) (l := ofL l space) tab_22 rfl tab_28 rfl rfl (by omega) rfl rfl (by omega) ?_)
   obtain ⟨e1,he1⟩ := get_of_lt (ofL l space) (i := i) (by omega)
   refine qo hnt rfl (s_ldA (b := e1) tab_28 rfl rfl rfl he1 rfl rfl ?_)
   refine qo hnt rfl (s_alloc tab_28 ?_)
   refine qo hnt rfl (s_store_ptr tab_28 rfl rfl rfl rfl rfl (Nat.le_of_ble_eq_true rfl) ?_)
   refine r_set [(2,pI a),(3,pI n),(10,PV.ref 1 0 none),(11,PV.ref 0 0 none),(13,PV.ptr 2 0),(23,PV.ref 1 0 none),(24,pN ((ofL l space).length)),(25,pN i)] [(2,.obj (cWindow e1)),(0,oB true 2 eSpan os),(1,oB true 4 eWindow (ofL l space))] 3 ⟨rfl,rfl,rfl,rfl,rfl,rfl,rfl,rfl,trivial⟩ rfl rfl (r_end (q_then (w_R (qm hnt rfl rfl (qo hnt rfl (s_load_ptr tab_28 rfl rfl rfl (Nat.le_of_ble_eq_true rfl) ?_))))))
   refine qo hnt rfl (s_callF rfl rfl rfl (w_window_virtual e1) rfl ?_)
   refine qo hnt rfl (s_mkM (f := eSpan) [vSp e1] tab_87 rfl tab_89 ⟨rfl,by decide⟩ (by decide) rfl rfl rfl rfl ?_)
   refine qo hnt rfl (s_appR0 (f := eSpan) (l := os) (xs := [vSp e1]) tab_87 rfl tab_89 ⟨rfl,by decide,by decide⟩ (srcM tab_87 rfl (hM_ref0 (f := eSpan) rfl rfl)) rfl rfl (by (simp; omega)) ?_)
   refine qa hnt rfl rfl (r_set [(2,pI a),(3,pI n),(10,PV.ref 1 0 none),(11,PV.ref 4 0 none),(23,PV.ref 1 0 none),(24,pN ((ofL l space).length)),(25,pN i)] [(4,oB true 2 eSpan (os ++ [vSp e1])),(3,oB true 2 eSpan [vSp e1]),(2,.obj (cWindow e1)),(1,oB true 4 eWindow (ofL l space))] 5 ⟨rfl,rfl,rfl,rfl,rfl,rfl,rfl,trivial⟩ rfl rfl (r_end (q_block (q_then (w_R ?_)))))
   refine qo hnt rfl (s_addN (a := i) (b := 1) rfl rfl (by omega) (by omega) (by omega) ?_)
   refine qm hnt rfl rfl (r_end (q_then (⟨(os ++ [vSp e1]),(i + 1), ?_, ?_,⟨[(0,4),(1,1)],by rw [hk]; decide,⟨⟨_,rfl,rfl,rfl⟩,⟨_,rfl,rfl,rfl⟩,⟨_,rfl,rfl,rfl⟩,⟨_,rfl,rfl,rfl⟩,⟨_,rfl,rfl,rfl⟩,⟨_,rfl,rfl,rfl⟩,⟨_,rfl,rfl,rfl⟩,trivial⟩,⟨⟨_,_,rfl,rfl,rfl,rfl⟩,⟨_,_,rfl,rfl,rfl,rfl⟩,trivial⟩,by rw [hk]; decide⟩⟩)))
   ·exact ⟨by omega,by rw [hos,List.take_add_one,he1]; simp⟩
   · omega
  try simp only [sB] at c1
  refine w_exit (q_then_exit (q_then_exit (q_block_exit (q_then (w_seq ?_)))))
  have hie : i = (ofL l space).length := by omega
  refine w_H (H' := [(0,oB true 2 eSpan ((ofL l space).map vSp)),(1,oB true 4 eWindow (ofL l space))]) (congrArg (fun z => ([(0,oB true 2 eSpan z),(1,oB true 4 eWindow (ofL l space))] : Heap)) (show os = ((ofL l space).map vSp) by rw [hos,hie,List.take_length])) (w_R (qm hnt rfl rfl (qm hnt rfl rfl (qm hnt rfl rfl (qo hnt rfl (s_build tab_89 rfl rfl (b_cons rfl tab_3 rfl rfl rfl (Nat.le_of_ble_eq_true rfl) (b_cons rfl tab_3 rfl rfl rfl (Nat.le_of_ble_eq_true rfl) (b_nil ?_)))))))))
  refine qo hnt rfl (s_callX (r2 := PV.tup [pS 2 false eSpan (coverV ((ofL l space).map vSp) (⟨a,n⟩ : TSpan)),pB (coverOk ((ofL l space).map vSp) (⟨a,n⟩ : TSpan))]) (nx1 := 2) (H2 := [(0,oB false 2 eSpan ((ofL l space).map vSp)),(1,oB true 4 eWindow (ofL l space))]) (H3 := [(0,oB false 2 eSpan ((ofL l space).map vSp)),(1,oB true 4 eWindow (ofL l space))]) [] [] rfl rfl rfl (handed_of (by decide) trivial) rfl rfl rfl rfl rfl rfl (w_span_Cover ((ofL l space).map vSp) false (⟨a,n⟩ : TSpan) (by rw [List.length_map]; omega)) rfl (dist_of rfl) rfl rfl rfl rfl ?_)
  refine qm hnt rfl rfl (qo hnt rfl (s_extract rfl rfl ?_))
  refine qo hnt rfl (s_extract rfl rfl ?_)
  refine qa hnt rfl rfl (qa hnt rfl rfl (r_set [(10,PV.ref 1 0 none),(11,PV.ref 0 0 none),(14,pS 2 false eSpan (coverV ((ofL l space).map vSp) (⟨a,n⟩ : TSpan))),(15,pB (coverOk ((ofL l space).map vSp) (⟨a,n⟩ : TSpan)))] [(0,oB false 2 eSpan ((ofL l space).map vSp)),(1,oB true 4 eWindow (ofL l space))] 2 ⟨rfl,rfl,rfl,rfl,trivial⟩ rfl rfl (r_end (q_then (w_seq ?_)))))
  refine w_eq (s := 14) (y := pS 2 false eSpan (covW l space a n)) rfl (congrArg (fun z => pS 2 false eSpan z) (show (coverV ((ofL l space).map vSp) (⟨a,n⟩ : TSpan)) = (covW l space a n) by rfl)) (w_eq (s := 15) (y := pB (mapOk l space a n)) rfl (congrArg pB (show (coverOk ((ofL l space).map vSp) (⟨a,n⟩ : TSpan)) = (mapOk l space a n) by rfl)) ?_)
  have hcl := covW_len l space a n
  refine w_R (qa hnt rfl rfl (r_end (q_then (w_seq (w_seq ?_)))))
  refine w_R (qm hnt rfl rfl (qo hnt rfl (s_lenM (l := covW l space a n) tab_87 rfl (hM_sl (f := eSpan) rfl) ?_)))
  refine qm hnt rfl rfl (r_end (q_then (w_block (w_adopt (s := 16) (sz := 3) rfl (loop2 (fun (os : List TPiece) (j : Nat) => j ≤ (covW l space a n).length ∧ os = ((covW l space a n).take j).map (pieceW (ofL l space))) (fun (os : List TPiece) (j : Nat) => [(10,PV.ref 1 0 none),(11,PV.ref 2 0 none),(15,pB (mapOk l space a n)),(16,PV.ref 0 0 none),(43,pS 2 false eSpan (covW l space a n)),(44,pN ((covW l space a n).length)),(45,pN j)]) 3 (fun (os : List TPiece) (j : Nat) => [(0,oB true 3 ePiece os),(1,oB true 4 eWindow (ofL l space)),(2,oB false 2 eSpan ((ofL l space).map vSp))]) (fun (os : List TPiece) (j : Nat) => (covW l space a n).length - j) (([] : List TPiece)) (0) ?_ ⟨[(0,2),(1,1),(2,0)],by rw [hk]; decide,⟨⟨_,rfl,rfl,rfl⟩,⟨_,rfl,rfl,rfl⟩,⟨_,rfl,rfl,rfl⟩,⟨_,rfl,rfl,rfl⟩,⟨_,rfl,rfl,rfl⟩,⟨_,rfl,rfl,rfl⟩,⟨_,rfl,rfl,rfl⟩,trivial⟩,⟨⟨_,_,rfl,rfl,rfl,rfl⟩,⟨_,_,rfl,rfl,rfl,rfl⟩,⟨_,_,rfl,rfl,rfl,rfl⟩,trivial⟩,by rw [hk]; decide⟩ ?_)))))
  · exact ⟨by omega,rfl⟩
  ·intro os j hI
   obtain ⟨hj,hos2⟩ := hI
   have hol : os.length ≤ 2147483648 := by rw [hos2]; simp; omega
   refine w_seq (w_R (qo hnt rfl (s_lss rfl rfl ?_)))
   refine r_end (q_then (w_seq (w_if rfl (fun c2 => ?_) (fun c2 => ?_))))
   ·try simp only [sB] at c2
    refine w_skip (q_then (w_seq (w_block (w_seq (w_R ?_)))))
    obtain ⟨e2,he2⟩ := get_of_lt (covW l space a n) (i := j) (by omega)
    refine qo hnt rfl (s_iaM (q := j) (b := e2) (f := eSpan) tab_87 rfl tab_89 rfl rfl (by omega) rfl he2 ?_)
    refine qo hnt rfl (s_load_ro tab_89 rfl rfl rfl ?_)
    refine qo hnt rfl (s_alloc tab_89 ?_)
    refine qo hnt rfl (s_store_ptr tab_89 rfl rfl rfl rfl rfl (Nat.le_of_ble_eq_true rfl) ?_)
    refine r_set [(10,PV.ref 1 0 none),(11,PV.ref 2 0 none),(15,pB (mapOk l space a n)),(16,PV.ref 0 0 none),(18,PV.ptr 3 0),(43,pS 2 false eSpan (covW l space a n)),(44,pN ((covW l space a n).length)),(45,pN j)] [(3,.obj (cSpan e2)),(0,oB true 3 ePiece os),(1,oB true 4 eWindow (ofL l space)),(2,oB false 2 eSpan ((ofL l space).map vSp))] 4 ⟨rfl,rfl,rfl,rfl,rfl,rfl,rfl,rfl,trivial⟩ rfl rfl (r_end (q_then (w_seq (w_R (qm hnt rfl rfl ?_)))))
    refine qo hnt rfl (s_makeFunc rfl rfl ?_)
    refine qo hnt rfl (s_callX (r2 := pI (idxI (((ofL l space).map vSp).findIdx? fun x => (spIn ⟨e2.at_,1⟩ x)))) (nx1 := 4) (H2 := [(2,oB false 2 eSpan ((ofL l space).map vSp)),(3,.obj (cSpan e2)),(0,oB true 3 ePiece os),(1,oB true 4 eWindow (ofL l space))]) (H3 := [(3,.obj (cSpan e2)),(2,oB false 2 eSpan ((ofL l space).map vSp)),(0,oB true 3 ePiece os),(1,oB true 4 eWindow (ofL l space))]) [3] [.obj (cSpan e2)] rfl rfl rfl (handed_of (by decide) ⟨rfl,trivial⟩) rfl rfl rfl rfl rfl rfl (w_slices_IndexFunc_span_Span_span_Span_c3 ((ofL l space).map vSp) false e2.at_ e2.count (by rw [List.length_map]; omega)) rfl (dist_of rfl) rfl rfl rfl rfl ?_)
    refine qa hnt rfl rfl (r_set [(10,PV.ref 1 0 none),(11,PV.ref 2 0 none),(15,pB (mapOk l space a n)),(16,PV.ref 0 0 none),(18,PV.ptr 3 0),(19,pI (idxI (((ofL l space).map vSp).findIdx? fun x => (spIn ⟨e2.at_,1⟩ x)))),(43,pS 2 false eSpan (covW l space a n)),(44,pN ((covW l space a n).length)),(45,pN j)] [(3,.obj (cSpan e2)),(2,oB false 2 eSpan ((ofL l space).map vSp)),(0,oB true 3 ePiece os),(1,oB true 4 eWindow (ofL l space))] 4 ⟨rfl,rfl,rfl,rfl,rfl,rfl,rfl,rfl,rfl,trivial⟩ rfl rfl (r_end (q_then ?_)))
    obtain ⟨ii,w,hw,hfi,hno,hin,hpc,m1,m2,m3,v1,v2,v3,v4,v5⟩ := piece_of (List.mem_of_getElem? he2)
    have hwb := (winR_iff w).1 m1
    have hil := (List.getElem?_eq_some_iff.1 hw).1
    refine w_eq (s := 19) (y := pN ii) rfl (congrArg pI (show (idxI (((ofL l space).map vSp).findIdx? fun x => (spIn ⟨e2.at_,1⟩ x))) = ((ii : Nat) : Int) by rw [hfi])) (W_drawn tabOk mixed hnt [[],[],[1],[],[],[3,4],[3,4,5],[3,4,5,6],[],[8],[3,4,5,6,7,8,9],[],[],[11,12],[11,12,13],[11,12,13,14],[3,4,5,6,7,8,9,10,11,12,13,14,15],[],[17],[1,2,3,4,5,6,7,8,9,10,11,12,13,14,15,16,17,18],[1,2,3,4,5,6,7,8,9,10,11,12,13,14,15,16,17,18,19],(.range 21),(.range 22)] (by kernel_rfl) (d_op (x_run0 [(16,PV.ref 0 0 none)] [] rfl rfl rfl rfl (s_move rfl ⟨rfl,rfl,rfl⟩) (d_op (x_run0 [(18,PV.ptr 3 0)] [] rfl rfl rfl rfl (s_fa_ptr tab_89 rfl rfl tab_3 (by decide) rfl ⟨rfl,rfl,rfl⟩) ?_)))))
    refine d_op (xL [(53,PV.ptr 3 0)] [1] [(3,.obj (cSpan e2))] rfl rfl rfl rfl rfl (s_load_ptr1 tab_3 rfl rfl rfl rfl rfl ⟨rfl,rfl,rfl⟩) ⟨rfl,trivial⟩ rfl (d_op (x_run0 [(10,PV.ref 1 0 none)] [] rfl rfl rfl rfl (s_move rfl ⟨rfl,rfl,rfl⟩) (d_op (x_run0 [(19,pN ii)] [] rfl rfl rfl rfl (s_move rfl ⟨rfl,rfl,rfl⟩) ?_)))))
    refine d_op (xL [(55,PV.ref 1 0 none),(56,pN ii)] [3,4] [(1,oB true 4 eWindow (ofL l space))] rfl rfl rfl rfl rfl (s_iaR0 (q := ii) (f := eWindow) (l := ofL l space) tab_22 rfl tab_28 rfl rfl (by omega) rfl rfl (by omega) ⟨rfl,rfl,rfl⟩) ⟨rfl,trivial⟩ rfl (d_op (x_run0 [(57,PV.ep 1 ii 0)] [3,4,5] rfl rfl rfl rfl (s_fa_ep tab_28 rfl rfl tab_3 (by decide) rfl ⟨rfl,rfl,rfl⟩) (d_op (xL [(58,PV.ep 1 ii 2)] [3,4,5,6] [(1,oB true 4 eWindow (ofL l space))] rfl rfl rfl rfl rfl (s_ldM (b := w) (f := eWindow) tab_3 rfl rfl rfl rfl hw rfl ⟨rfl,rfl,rfl⟩) ⟨rfl,trivial⟩ rfl ?_)))))
    refine d_op (x_run0 [(18,PV.ptr 3 0)] [] rfl rfl rfl rfl (s_fa_ptr tab_89 rfl rfl tab_3 (by decide) rfl ⟨rfl,rfl,rfl⟩) (d_op (xL [(60,PV.ptr 3 0)] [8] [(3,.obj (cSpan e2))] rfl rfl rfl rfl rfl (s_load_ptr1 tab_3 rfl rfl rfl rfl rfl ⟨rfl,rfl,rfl⟩) ⟨rfl,trivial⟩ rfl (d_op (x_run0 [(59,pI w.physical),(61,pI e2.at_)] [3,4,5,6,7,8,9] rfl rfl rfl rfl (s_addi (r := w.physical + e2.at_) rfl rfl rfl (by omega) ⟨rfl,rfl,rfl⟩) ?_)))))
    refine d_op (x_run0 [(10,PV.ref 1 0 none)] [] rfl rfl rfl rfl (s_move rfl ⟨rfl,rfl,rfl⟩) (d_op (x_run0 [(19,pN ii)] [] rfl rfl rfl rfl (s_move rfl ⟨rfl,rfl,rfl⟩) (d_op (xL [(63,PV.ref 1 0 none),(64,pN ii)] [11,12] [(1,oB true 4 eWindow (ofL l space))] rfl rfl rfl rfl rfl (s_iaR0 (q := ii) (f := eWindow) (l := ofL l space) tab_22 rfl tab_28 rfl rfl (by omega) rfl rfl (by omega) ⟨rfl,rfl,rfl⟩) ⟨rfl,trivial⟩ rfl ?_)))))
    refine d_op (x_run0 [(65,PV.ep 1 ii 0)] [11,12,13] rfl rfl rfl rfl (s_fa_ep tab_28 rfl rfl tab_3 (by decide) rfl ⟨rfl,rfl,rfl⟩) (d_op (xL [(66,PV.ep 1 ii 1)] [11,12,13,14] [(1,oB true 4 eWindow (ofL l space))] rfl rfl rfl rfl rfl (s_ldM (b := w) (f := eWindow) tab_3 rfl rfl rfl rfl hw rfl ⟨rfl,rfl,rfl⟩) ⟨rfl,trivial⟩ rfl (d_op (x_run0 [(62,pI (w.physical + e2.at_)),(67,pI w.virtual)] [3,4,5,6,7,8,9,10,11,12,13,14,15] rfl rfl rfl rfl (s_subi (r := (w.physical + e2.at_) - w.virtual) rfl rfl rfl (by omega) ⟨rfl,rfl,rfl⟩) ?_)))))
    refine d_op (x_run0 [(18,PV.ptr 3 0)] [] rfl rfl rfl rfl (s_fa_ptr tab_89 rfl rfl tab_3 (by decide) rfl ⟨rfl,rfl,rfl⟩) (d_op (xL [(69,PV.ptr 3 1)] [17] [(3,.obj (cSpan e2))] rfl rfl rfl rfl rfl (s_load_ptr1 tab_3 rfl rfl rfl rfl rfl ⟨rfl,rfl,rfl⟩) ⟨rfl,trivial⟩ rfl (d_op (x_run0 [(54,pI e2.at_),(68,pI ((w.physical + e2.at_) - w.virtual)),(70,pI e2.count)] [1,2,3,4,5,6,7,8,9,10,11,12,13,14,15,16,17,18] rfl rfl rfl rfl (s_build tab_36 rfl rfl (b_cons rfl tab_3 rfl rfl rfl (Nat.le_of_ble_eq_true rfl) (b_cons rfl tab_3 rfl rfl rfl (Nat.le_of_ble_eq_true rfl) (b_cons rfl tab_3 rfl rfl rfl (Nat.le_of_ble_eq_true rfl) (b_nilN (cs' := [pI e2.at_,pI ((w.physical + e2.at_) - w.virtual),pI e2.count]) rfl ⟨rfl,rfl,rfl⟩))))) ?_)))))
    refine d_op (xT [(71,PV.f (.agg [encI e2.at_,encI ((w.physical + e2.at_) - w.virtual),encI e2.count]))] [1,2,3,4,5,6,7,8,9,10,11,12,13,14,15,16,17,18,19] [] [(4,oB true 3 ePiece [(⟨e2.at_,(w.physical + e2.at_) - w.virtual,e2.count⟩ : TPiece)])] [(3,.obj (cSpan e2)),(2,oB false 2 eSpan ((ofL l space).map vSp)),(0,oB true 3 ePiece os),(1,oB true 4 eWindow (ofL l space))] rfl rfl rfl rfl rfl (s_mkM (f := ePiece) [(⟨e2.at_,(w.physical + e2.at_) - w.virtual,e2.count⟩ : TPiece)] tab_32 rfl tab_36 ⟨rfl,by decide⟩ (by decide) rfl rfl rfl rfl ⟨rfl,rfl,rfl⟩) rfl rfl (d_op (x_run [(52,PV.ref 0 0 none),(72,PV.ref 4 0 none)] (.range 21) [(4,oB true 3 ePiece [(⟨e2.at_,(w.physical + e2.at_) - w.virtual,e2.count⟩ : TPiece)])] [(0,oB true 3 ePiece os)] [(5,oB true 3 ePiece (os ++ [(⟨e2.at_,(w.physical + e2.at_) - w.virtual,e2.count⟩ : TPiece)])),(4,oB true 3 ePiece [(⟨e2.at_,(w.physical + e2.at_) - w.virtual,e2.count⟩ : TPiece)])] [(5,oB true 3 ePiece (os ++ [(⟨e2.at_,(w.physical + e2.at_) - w.virtual,e2.count⟩ : TPiece)]))] [(5,oB true 3 ePiece (os ++ [(⟨e2.at_,(w.physical + e2.at_) - w.virtual,e2.count⟩ : TPiece)])),(4,oB true 3 ePiece [(⟨e2.at_,(w.physical + e2.at_) - w.virtual,e2.count⟩ : TPiece)]),(3,.obj (cSpan e2)),(2,oB false 2 eSpan ((ofL l space).map vSp)),(1,oB true 4 eWindow (ofL l space))] rfl rfl rfl rfl rfl rfl (s_appR0 (f := ePiece) (l := os) (xs := [(⟨e2.at_,(w.physical + e2.at_) - w.virtual,e2.count⟩ : TPiece)]) tab_32 rfl tab_36 ⟨rfl,by decide,by decide⟩ (srcM tab_32 rfl (hM_ref0 (f := ePiece) rfl rfl)) rfl rfl (by (simp; omega)) ⟨rfl,rfl,rfl⟩) rfl ⟨rfl,trivial⟩ rfl rfl (d_op (x_run0 [(73,PV.ref 5 0 none)] (.range 22) rfl rfl rfl rfl (s_assign rfl ⟨rfl,rfl,rfl⟩) ?_)))))
    refine d_end ⟨by kernel_rfl, ?_⟩
    refine q_block (q_then (w_R (qo hnt rfl (s_addN (a := j) (b := 1) rfl rfl (by omega) (by omega) (by omega) ?_))))
    refine qm hnt rfl rfl (r_end (q_then (⟨(os ++ [(⟨e2.at_,(w.physical + e2.at_) - w.virtual,e2.count⟩ : TPiece)]),(j + 1), ?_, ?_,⟨[(0,5),(1,1),(2,2)],by rw [hk]; decide,⟨⟨_,rfl,rfl,rfl⟩,⟨_,rfl,rfl,rfl⟩,⟨_,rfl,rfl,rfl⟩,⟨_,rfl,rfl,rfl⟩,⟨_,rfl,rfl,rfl⟩,⟨_,rfl,rfl,rfl⟩,⟨_,rfl,rfl,rfl⟩,trivial⟩,⟨⟨_,_,rfl,rfl,rfl,rfl⟩,⟨_,_,rfl,rfl,rfl,rfl⟩,⟨_,_,rfl,rfl,rfl,rfl⟩,trivial⟩,by rw [hk]; decide⟩⟩)))
    ·exact ⟨by omega,by rw [hos2,List.take_add_one,he2]; simp [hpc]⟩
    · omega
   try simp only [sB] at c2
   refine w_exit (q_then_exit (q_then_exit (q_block_exit (q_then (w_seq ?_)))))
   have hje : j = (covW l space a n).length := by omega
   refine w_H (H' := [(0,oB true 3 ePiece (mapL l space a n)),(1,oB true 4 eWindow (ofL l space)),(2,oB false 2 eSpan ((ofL l space).map vSp))]) (congrArg (fun z => ([(0,oB true 3 ePiece z),(1,oB true 4 eWindow (ofL l space)),(2,oB false 2 eSpan ((ofL l space).map vSp))] : Heap)) (show os = (mapL l space a n) by rw [hos2,hje,List.take_length]; rfl)) (w_R (qm hnt rfl rfl (qo hnt rfl (s_callX (r2 := pS 3 true ePiece (mapL l space a n)) (nx1 := 3) (H2 := [(0,oB false 3 ePiece (mapL l space a n)),(1,oB true 4 eWindow (ofL l space)),(2,oB false 2 eSpan ((ofL l space).map vSp))]) (H3 := [(0,oB false 3 ePiece (mapL l space a n)),(1,oB true 4 eWindow (ofL l space)),(2,oB false 2 eSpan ((ofL l space).map vSp))]) [] [] rfl rfl rfl (handed_of (by decide) trivial) rfl rfl rfl rfl rfl rfl (w_slices_Clip_window_Piece_window_Piece (mapL l space a n) false) rfl (dist_of rfl) rfl rfl rfl rfl ?_))))
   refine qm hnt rfl rfl (qa hnt rfl rfl (qa hnt rfl rfl (r_set [(8,pS 3 true ePiece (mapL l space a n)),(9,pB (mapOk l space a n))] [(0,oB false 3 ePiece (mapL l space a n)),(1,oB true 4 eWindow (ofL l space)),(2,oB false 2 eSpan ((ofL l space).map vSp))] 3 ⟨rfl,rfl,trivial⟩ rfl rfl (r_end (q_then ?_)))))
   refine w_le (s := 8) (y := pS 3 true ePiece (mapL l space a n)) rfl (le_of_eq (congrArg (fun z => pS 3 true ePiece z) (show (mapL l space a n) = (mapL l space a n) by rfl))) (w_ret ?_)
   exact fin_plain (ret_tmp rfl (ret_tmp rfl ret_nil)) rfl rfl ⟨rfl,rfl,rfl⟩
theorem w_window_Back (l : List TWindow) (cl_l : Bool) (space : Int) (a : Int) (hl : l.length ≤ 1000) (ha : -9223372036854775808 ≤ a ∧ a ≤ 9223372036854775807) :
    T Try.prog 17 [pS 4 cl_l eWindow l,pI space,pI a] 0 [] (Ret (PV.tup [pI (backV l space a),pB (backOk l space a)]) 0 []) := by
 refine t_fun tabOk (n := 39) (rs := [.tmp 6,.tmp 7]) Try.func17 rfl rfl rfl rfl (Nat.le_of_ble_eq_true rfl) ?_
 intro c hnt hk
 refine w_seq (w_R (qa hnt rfl rfl (qa hnt rfl rfl (r_end (q_then ?_)))))
 refine w_seq (w_seq (w_R (qm hnt rfl rfl (qm hnt rfl rfl (qo hnt rfl (s_callX (r2 := PV.ref 0 0 none) (nx1 := 1) (H2 := []) (H3 := [(0,oB true 4 eWindow (ofL l space))]) [] [] rfl rfl rfl (handed_of (by decide) trivial) rfl rfl rfl rfl rfl rfl (w_window_of l cl_l space (by omega)) rfl (dist_of rfl) rfl rfl rfl rfl ?_))))))
 refine qo hnt rfl (s_lenM (l := ofL l space) tab_22 rfl (hM_ref0 (f := eWindow) rfl rfl) ?_)
 refine qm hnt rfl rfl (r_set [(2,pI a),(12,PV.ref 0 0 none),(13,pN ((ofL l space).length)),(14,pI 0)] [(0,oB true 4 eWindow (ofL l space))] 1 ⟨rfl,rfl,rfl,rfl,trivial⟩ rfl rfl (r_end (q_then (w_block (loop1 (fun (i : Nat) => i ≤ (ofL l space).length ∧ ∀ j u,j < i → (ofL l space)[j]? = some u → holdW a u = false) (fun (i : Nat) => [(2,pI a),(12,PV.ref 0 0 none),(13,pN ((ofL l space).length)),(14,pN i)]) 1 (fun (i : Nat) => [(0,oB true 4 eWindow (ofL l space))]) (fun (i : Nat) => (ofL l space).length - i) (0) ?_ ⟨[(0,0)],by rw [hk]; decide,⟨⟨_,rfl,rfl,rfl⟩,⟨_,rfl,rfl,rfl⟩,⟨_,rfl,rfl,rfl⟩,⟨_,rfl,rfl,rfl⟩,trivial⟩,⟨⟨_,_,rfl,rfl,rfl,rfl⟩,trivial⟩,by rw [hk]; decide⟩ ?_)))))
 · exact ⟨by omega,fun j u hj => by omega⟩
 ·intro i hI
  obtain ⟨hi,hno⟩ := hI
  refine w_seq ?_
  have hle := ofL_len l space
  refine w_R (qo hnt rfl (s_lss rfl rfl ?_))
  refine r_end (q_then (w_seq (w_if rfl (fun c1 => ?_) (fun c1 => ?_))))
  ·try simp only [sB] at c1
   refine w_skip (q_then (w_seq (w_block (w_seq (w_R ?_)))))
   refine qo hnt rfl (s_iaR0 (q := i) (f := eWindow) (l := ofL l space) tab_22 rfl tab_28 rfl rfl (by omega) rfl rfl (by omega) ?_)
   obtain ⟨e1,he1⟩ := get_of_lt (ofL l space) (i := i) (by omega)
   refine qo hnt rfl (s_ldA (b := e1) tab_28 rfl rfl rfl he1 rfl rfl ?_)
   refine qo hnt rfl (s_alloc tab_28 ?_)
   refine qo hnt rfl (s_store_ptr tab_28 rfl rfl rfl rfl rfl (Nat.le_of_ble_eq_true rfl) ?_)
   refine r_set [(2,pI a),(9,PV.ptr 1 0),(12,PV.ref 0 0 none),(13,pN ((ofL l space).length)),(14,pN i)] [(1,.obj (cWindow e1)),(0,oB true 4 eWindow (ofL l space))] 2 ⟨rfl,rfl,rfl,rfl,rfl,trivial⟩ rfl rfl (r_end (q_then (w_seq ?_)))
   have hwb := (winR_iff e1).1 (ofL_get he1).1
   refine w_R (qm hnt rfl rfl (qo hnt rfl (s_fa_ptr tab_28 rfl rfl tab_3 (by decide) rfl ?_)))
   refine qo hnt rfl (s_load_ptr1 tab_3 rfl rfl rfl rfl rfl ?_)
   refine qo hnt rfl (s_geq rfl rfl ?_)
   refine qm hnt rfl rfl (r_cut0 8 [(2,pI a),(9,PV.ptr 1 0),(12,PV.ref 0 0 none),(13,pN ((ofL l space).length)),(14,pN i),(30,pB ((decide (e1.physical ≤ a)) && (decide (a - e1.physical < e1.count))))] ?_ ?_)
   ·refine r_if tabOk hnt rfl rfl rfl (fun g1 => ?_) (fun g1 => ?_)
    ·have g1' := g1
     try simp only [sB] at g1'
     refine qm hnt rfl rfl (ry hnt rfl rfl rfl g1 (qo hnt rfl (s_fa_ptr tab_28 rfl rfl tab_3 (by decide) rfl ?_)))
     refine ry hnt rfl rfl rfl g1 (qo hnt rfl (s_load_ptr1 tab_3 rfl rfl rfl rfl rfl ?_))
     refine ry hnt rfl rfl rfl g1 (qo hnt rfl (s_subi (r := a - e1.physical) rfl rfl rfl (by omega) ?_))
     refine ry hnt rfl rfl rfl g1 (qo hnt rfl (s_fa_ptr tab_28 rfl rfl tab_3 (by decide) rfl ?_))
     refine ry hnt rfl rfl rfl g1 (qo hnt rfl (s_load_ptr1 tab_3 rfl rfl rfl rfl rfl ?_))
     refine ry hnt rfl rfl rfl g1 (qo hnt rfl (s_lss rfl rfl ?_))
     refine qo hnt rfl (s_pick_t rfl g1 rfl ?_)
     refine r_eq (s := 30) (y := pB ((decide (e1.physical ≤ a)) && (decide (a - e1.physical < e1.count)))) rfl (mix_at g1) ?_
     exact r_mid ⟨⟨rfl,rfl,rfl,rfl,rfl,rfl,trivial⟩,rfl,rfl⟩
    ·have g1' := g1
     try simp only [sB] at g1'
     refine rn hnt rfl rfl rfl g1 (rn hnt rfl rfl rfl g1 (rn hnt rfl rfl rfl g1 (rn hnt rfl rfl rfl g1 (rn hnt rfl rfl rfl g1 (rn hnt rfl rfl rfl g1 ?_)))))
     refine qo hnt rfl (s_pick_f rfl g1 rfl ?_)
     refine r_eq (s := 30) (y := pB ((decide (e1.physical ≤ a)) && (decide (a - e1.physical < e1.count)))) rfl (mix_af _ g1) ?_
     exact r_mid ⟨⟨rfl,rfl,rfl,rfl,rfl,rfl,trivial⟩,rfl,rfl⟩
   ·refine r_end (q_then (w_if rfl (fun c2 => ?_) (fun c2 => ?_)))
    ·have c2_ := c2
     try simp only [sB] at c2
     have hbk := back_some he1 c2_ hno
     refine w_seq ?_
     have hh := c2_
     simp only [Bool.and_eq_true,decide_eq_true_eq] at hh
     refine w_R (qo hnt rfl (s_fa_ptr tab_28 rfl rfl tab_3 (by decide) rfl ?_))
     refine qo hnt rfl (s_load_ptr1 tab_3 rfl rfl rfl rfl rfl ?_)
     refine qm hnt rfl rfl (qo hnt rfl (s_addi (r := e1.virtual + a) rfl rfl rfl (by omega) ?_))
     refine qo hnt rfl (s_fa_ptr tab_28 rfl rfl tab_3 (by decide) rfl ?_)
     refine qo hnt rfl (s_load_ptr1 tab_3 rfl rfl rfl rfl rfl ?_)
     refine qo hnt rfl (s_subi (r := (e1.virtual + a) - e1.physical) rfl rfl rfl (by omega) ?_)
     refine qa hnt rfl rfl (qa hnt rfl rfl (r_end (q_then (w_le (s := 6) (y := pI (backV l space a)) rfl (le_of_eq (congrArg pI (show ((e1.virtual + a) - e1.physical) = (backV l space a) by (unfold backV; rw [hbk]; done)))) (w_le (s := 7) (y := pB (backOk l space a)) rfl (le_of_eq (congrArg pB (show true = (backOk l space a) by (unfold backOk; rw [hbk]; rfl)))) ?_)))))
     refine w_ret (q_block_ret (q_then_ret (q_then_ret (q_block_ret (q_then_ret ?_)))))
     exact fin_plain (ret_tmp rfl (ret_tmp rfl ret_nil)) rfl rfl ⟨rfl,rfl,rfl⟩
    have c2_ := c2
    try simp only [sB] at c2
    refine w_skip (q_block (q_then (w_R (qo hnt rfl (s_addN (a := i) (b := 1) rfl rfl (by omega) (by omega) (by omega) ?_)))))
    refine qm hnt rfl rfl (r_end (q_then (⟨(i + 1), ?_, ?_,⟨[(0,0)],by rw [hk]; decide,⟨⟨_,rfl,rfl,rfl⟩,⟨_,rfl,rfl,rfl⟩,⟨_,rfl,rfl,rfl⟩,⟨_,rfl,rfl,rfl⟩,trivial⟩,⟨⟨_,_,rfl,rfl,rfl,rfl⟩,trivial⟩,by rw [hk]; decide⟩⟩)))
    ·refine ⟨by omega,fun j u hj hu => ?_⟩
     by_cases hji : j < i
     · exact hno j u hji hu
     · obtain rfl : j = i := by omega
       rw [he1] at hu; cases hu; exact c2_
    · omega
  try simp only [sB] at c1
  have hbk := back_none (a := a) (fun j u hj hu => hno j u (by omega) hu)
  refine w_exit (q_then_exit (q_then_exit (q_block_exit (q_then (w_seq ?_)))))
  refine w_R (qa hnt rfl rfl (qa hnt rfl rfl (r_end (q_then (w_le (s := 6) (y := pI (backV l space a)) rfl (le_of_eq (congrArg pI (show 0 = (backV l space a) by (unfold backV; rw [hbk]; done)))) ?_)))))
  refine w_le (s := 7) (y := pB (backOk l space a)) rfl (le_of_eq (congrArg pB (show false = (backOk l space a) by (unfold backOk; rw [hbk]; rfl)))) (w_ret ?_)
  exact fin_plain (ret_tmp rfl (ret_tmp rfl ret_nil)) rfl rfl ⟨rfl,rfl,rfl⟩
theorem w_window_Meets (a : List TWindow) (cl_a : Bool) (b : List TWindow) (cl_b : Bool) (ha : a.length ≤ 1000) (hb : b.length ≤ 1000) :
    T Try.prog 39 [pS 4 cl_a eWindow a,pS 4 cl_b eWindow b] 0 [] (Ret (pB (meetsW a b)) 0 []) := by
 refine t_fun tabOk (n := 17) (rs := [.tmp 4]) Try.func39 rfl rfl rfl rfl (Nat.le_of_ble_eq_true rfl) ?_
 intro c hnt hk
 refine w_seq (w_R (qa hnt rfl rfl (r_end (q_then (w_seq ?_)))))
 refine w_seq (w_R (qm hnt rfl rfl (qo hnt rfl (s_lenM (l := a) tab_22 rfl (hM_sl (f := eWindow) rfl) ?_))))
 refine qm hnt rfl rfl (r_end (q_then (w_block (loop1 (fun (i : Nat) => i ≤ a.length ∧ (a.take i).any (fun x => b.any fun y => meetW x y) = false) (fun (i : Nat) => [(1,pS 4 cl_b eWindow b),(7,pS 4 cl_a eWindow a),(8,pN a.length),(9,pN i)]) 0 (fun (i : Nat) => []) (fun (i : Nat) => a.length - i) (0) ?_ ⟨[],rfl,⟨⟨_,rfl,rfl,rfl⟩,⟨_,rfl,rfl,rfl⟩,⟨_,rfl,rfl,rfl⟩,⟨_,rfl,rfl,rfl⟩,trivial⟩,trivial,by rw [hk]; decide⟩ ?_))))
 · exact ⟨by omega,rfl⟩
 ·intro i hI
  obtain ⟨hi,hno⟩ := hI
  refine w_seq (w_R (qo hnt rfl (s_lss rfl rfl ?_)))
  refine r_end (q_then (w_seq (w_if rfl (fun c1 => ?_) (fun c1 => ?_))))
  ·try simp only [sB] at c1
   refine w_skip (q_then (w_seq (w_block (w_seq (w_R ?_)))))
   obtain ⟨e1,he1⟩ := get_of_lt a (i := i) (by omega)
   refine qo hnt rfl (s_iaM (q := i) (b := e1) (f := eWindow) tab_22 rfl tab_28 rfl rfl (by omega) rfl he1 ?_)
   refine qo hnt rfl (s_load_ro tab_28 rfl rfl rfl ?_)
   refine qo hnt rfl (s_alloc tab_28 ?_)
   refine qo hnt rfl (s_store_ptr tab_28 rfl rfl rfl rfl rfl (Nat.le_of_ble_eq_true rfl) ?_)
   refine r_set [(1,pS 4 cl_b eWindow b),(6,PV.ptr 0 0),(7,pS 4 cl_a eWindow a),(8,pN a.length),(9,pN i)] [(0,.obj (cWindow e1))] 1 ⟨rfl,rfl,rfl,rfl,rfl,trivial⟩ rfl rfl (r_end (q_then (w_seq (w_R (qm hnt rfl rfl ?_)))))
   refine qo hnt rfl (s_makeFunc rfl rfl ?_)
   refine qo hnt rfl (s_callX (r2 := pB (b.any fun x => meetW ⟨e1.space,e1.virtual,e1.physical,e1.count⟩ x)) (nx1 := 1) (H2 := [(0,.obj (cWindow e1))]) (H3 := [(0,.obj (cWindow e1))]) [0] [.obj (cWindow e1)] rfl rfl rfl (handed_of (by decide) ⟨rfl,trivial⟩) rfl rfl rfl rfl rfl rfl (w_slices_ContainsFunc_api_Window_api_Window_c4 b cl_b e1.space e1.virtual e1.physical e1.count (by omega)) rfl (dist_of rfl) rfl rfl rfl rfl ?_)
   refine r_set [(1,pS 4 cl_b eWindow b),(7,pS 4 cl_a eWindow a),(8,pN a.length),(9,pN i),(15,pB (b.any fun x => meetW ⟨e1.space,e1.virtual,e1.physical,e1.count⟩ x))] [(0,.obj (cWindow e1))] 1 ⟨rfl,rfl,rfl,rfl,rfl,trivial⟩ rfl rfl (r_end (q_then (w_if rfl (fun c2 => ?_) (fun c2 => ?_))))
   ·have c2_ := c2
    try simp only [sB] at c2
    refine w_seq (w_R (qa hnt rfl rfl (r_end (q_then (w_le (s := 4) (y := pB (meetsW a b)) rfl (le_of_eq (congrArg pB (show true = (meetsW a b) by exact (any_found he1 c2_).symm))) ?_)))))
    refine w_ret (q_block_ret (q_then_ret (q_then_ret (q_block_ret (q_then_ret ?_)))))
    exact fin_plain (ret_tmp rfl ret_nil) rfl rfl ⟨rfl,rfl,rfl⟩
   have c2_ := c2
   try simp only [sB] at c2
   refine w_skip (q_block (q_then (w_R (qo hnt rfl (s_addN (a := i) (b := 1) rfl rfl (by omega) (by omega) (by omega) ?_)))))
   refine qm hnt rfl rfl (r_end (q_then (⟨(i + 1), ?_, ?_,⟨[],rfl,⟨⟨_,rfl,rfl,rfl⟩,⟨_,rfl,rfl,rfl⟩,⟨_,rfl,rfl,rfl⟩,⟨_,rfl,rfl,rfl⟩,trivial⟩,trivial,by rw [hk]; decide⟩⟩)))
   ·exact ⟨by omega,any_take hno he1 c2_⟩
   · omega
  try simp only [sB] at c1
  refine w_exit (q_then_exit (q_then_exit (q_block_exit (q_then (w_seq ?_)))))
  refine w_R (qa hnt rfl rfl (r_end (q_then (w_le (s := 4) (y := pB (meetsW a b)) rfl (le_of_eq (congrArg pB (show false = (meetsW a b) by exact (any_all hno (by omega)).symm))) (w_ret ?_)))))
  exact fin_plain (ret_tmp rfl ret_nil) rfl rfl ⟨rfl,rfl,rfl⟩
theorem w_window_Own (l : List TWindow) (cl_l : Bool) (hl : l.length ≤ 1000) :
    T Try.prog 18 [pS 4 cl_l eWindow l] 0 [] (Ret (pB (ownW l)) 0 []) := by
 refine t_fun tabOk (n := 55) (rs := [.tmp 2]) Try.func18 rfl rfl rfl rfl (Nat.le_of_ble_eq_true rfl) ?_
 intro c hnt hk
 refine w_seq (w_R (qa hnt rfl rfl (r_end (q_then (w_seq ?_)))))
 refine w_seq (w_R (qm hnt rfl rfl (qo hnt rfl (s_lenM (l := l) tab_22 rfl (hM_sl (f := eWindow) rfl) ?_))))
 refine qm hnt rfl rfl (r_end (q_then (w_block (loop1 (fun (i : Nat) => i ≤ l.length ∧ ∀ (k j : Nat) x y,k < i → j < k → l[k]? = some x → l[j]? = some y → clashW x y = false) (fun (i : Nat) => [(0,pS 4 cl_l eWindow l),(9,pS 4 cl_l eWindow l),(10,pN l.length),(11,pN i)]) 0 (fun (i : Nat) => []) (fun (i : Nat) => l.length - i) (0) ?_ ⟨[],rfl,⟨⟨_,rfl,rfl,rfl⟩,⟨_,rfl,rfl,rfl⟩,⟨_,rfl,rfl,rfl⟩,⟨_,rfl,rfl,rfl⟩,trivial⟩,trivial,by rw [hk]; decide⟩ ?_))))
 · exact ⟨by omega,fun k j x y hk => by omega⟩
 ·intro i hI
  obtain ⟨hi,hno⟩ := hI
  refine w_seq (w_R (qo hnt rfl (s_lss rfl rfl ?_)))
  refine r_end (q_then (w_seq (w_if rfl (fun c1 => ?_) (fun c1 => ?_))))
  ·try simp only [sB] at c1
   refine w_skip (q_then (w_seq (w_block (w_seq (w_R ?_)))))
   refine qm hnt rfl rfl ?_
   obtain ⟨e1,he1⟩ := get_of_lt l (i := i) (by omega)
   refine qo hnt rfl (s_iaM (q := i) (b := e1) (f := eWindow) tab_22 rfl tab_28 rfl rfl (by omega) rfl he1 ?_)
   refine qo hnt rfl (s_load_ro tab_28 rfl rfl rfl ?_)
   refine qo hnt rfl (s_alloc tab_28 ?_)
   refine qa hnt rfl rfl (qo hnt rfl (s_store_ptr tab_28 rfl rfl rfl rfl rfl (Nat.le_of_ble_eq_true rfl) ?_))
   refine r_set [(0,pS 4 cl_l eWindow l),(3,pN i),(4,PV.ptr 0 0),(9,pS 4 cl_l eWindow l),(10,pN l.length),(11,pN i)] [(0,.obj (cWindow e1))] 1 ⟨rfl,rfl,rfl,rfl,rfl,rfl,trivial⟩ rfl rfl (r_end (q_then (w_seq (w_R (qm hnt rfl rfl ?_)))))
   refine qm hnt rfl rfl (qo hnt rfl (s_cutM_hi (b := i) (f := eWindow) (l := l) tab_22 rfl tab_28 ⟨rfl,by decide⟩ rfl (bound_some rfl (by omega)) (by omega) ?_))
   refine qo hnt rfl (s_lenM (l := l.take i) tab_22 rfl (hM_sl (f := eWindow) rfl) ?_)
   refine qm hnt rfl rfl (r_end (q_then (w_block (loop1 (fun (j : Nat) => j ≤ (l.take i).length ∧ ∀ q b,q < j → (l.take i)[q]? = some b → clashW e1 b = false) (fun (j : Nat) => [(0,pS 4 cl_l eWindow l),(4,PV.ptr 0 0),(9,pS 4 cl_l eWindow l),(10,pN l.length),(11,pN i),(18,pS 4 false eWindow (l.take i)),(19,pN ((l.take i).length)),(20,pN j)]) 1 (fun (j : Nat) => [(0,.obj (cWindow e1))]) (fun (j : Nat) => (l.take i).length - j) (0) ?_ ⟨[(0,0)],by rw [hk]; decide,⟨⟨_,rfl,rfl,rfl⟩,⟨_,rfl,rfl,rfl⟩,⟨_,rfl,rfl,rfl⟩,⟨_,rfl,rfl,rfl⟩,⟨_,rfl,rfl,rfl⟩,⟨_,rfl,rfl,rfl⟩,⟨_,rfl,rfl,rfl⟩,⟨_,rfl,rfl,rfl⟩,trivial⟩,⟨⟨_,_,rfl,rfl,rfl,rfl⟩,trivial⟩,by rw [hk]; decide⟩ ?_))))
   · exact ⟨by omega,fun q b hq => by omega⟩
   ·intro j hJ
    obtain ⟨hj,hnb⟩ := hJ
    have htl : (l.take i).length ≤ 1000 := by rw [List.length_take]; omega
    refine w_seq (w_R (qo hnt rfl (s_lss rfl rfl ?_)))
    refine r_end (q_then (w_seq (w_if rfl (fun c2 => ?_) (fun c2 => ?_))))
    ·try simp only [sB] at c2
     refine w_skip (q_then (w_seq (w_block (w_seq (w_R ?_)))))
     obtain ⟨e2,he2⟩ := get_of_lt (l.take i) (i := j) (by omega)
     refine qo hnt rfl (s_iaM (q := j) (b := e2) (f := eWindow) tab_22 rfl tab_28 rfl rfl (by omega) rfl he2 ?_)
     refine qo hnt rfl (s_load_ro tab_28 rfl rfl rfl ?_)
     refine qo hnt rfl (s_alloc tab_28 ?_)
     refine qo hnt rfl (s_store_ptr tab_28 rfl rfl rfl rfl rfl (Nat.le_of_ble_eq_true rfl) ?_)
     refine r_set [(0,pS 4 cl_l eWindow l),(4,PV.ptr 0 0),(6,PV.ptr 1 0),(9,pS 4 cl_l eWindow l),(10,pN l.length),(11,pN i),(18,pS 4 false eWindow (l.take i)),(19,pN ((l.take i).length)),(20,pN j)] [(1,.obj (cWindow e2)),(0,.obj (cWindow e1))] 2 ⟨rfl,rfl,rfl,rfl,rfl,rfl,rfl,rfl,rfl,trivial⟩ rfl rfl (r_end (q_then (w_seq (W_drawn tabOk mixed hnt [[],[0],[],[0,1,2],[0,1,2,3],[0,1,2,3,4],[0,1,2,3,4,5],[0,1,2,3,4,5],[],[0,1,2,3,4,5,6,8],(.range 10)] (by kernel_rfl) (d_op ?_)))))
     refine xL [(4,PV.ptr 0 0)] [] [(0,.obj (cWindow e1))] rfl rfl rfl rfl rfl (s_load_ptr tab_28 rfl rfl rfl (Nat.le_of_ble_eq_true rfl) ⟨rfl,rfl,rfl⟩) ⟨rfl,trivial⟩ rfl (d_op (x_run0 [(25,PV.f (eWindow e1))] [0] rfl rfl rfl rfl (s_callF rfl rfl rfl (w_window_virtual e1) rfl ⟨rfl,rfl,rfl⟩) (d_op (xL [(6,PV.ptr 1 0)] [] [(1,.obj (cWindow e2))] rfl rfl rfl rfl rfl (s_load_ptr tab_28 rfl rfl rfl (Nat.le_of_ble_eq_true rfl) ⟨rfl,rfl,rfl⟩) ⟨rfl,trivial⟩ rfl (d_op ?_)))))
     refine x_run0 [(27,PV.f (eWindow e2))] [0,1,2] rfl rfl rfl rfl (s_callF rfl rfl rfl (w_window_virtual e2) rfl ⟨rfl,rfl,rfl⟩) (d_op (x_run0 [(26,PV.f (eSpan (vSp e1))),(28,PV.f (eSpan (vSp e2)))] [0,1,2,3] rfl rfl rfl rfl (s_callF rfl rfl rfl (w_span_Meet (vSp e1) (vSp e2)) rfl ⟨rfl,rfl,rfl⟩) (d_op (x_run0 [(29,PV.tup [PV.f (eSpan (meetV (vSp e1) (vSp e2))),pB (meetOk (vSp e1) (vSp e2))])] [0,1,2,3,4] rfl rfl rfl rfl (s_move rfl ⟨rfl,rfl,rfl⟩) (d_op ?_)))))
     refine x_run0 [(24,PV.tup [PV.f (eSpan (meetV (vSp e1) (vSp e2))),pB (meetOk (vSp e1) (vSp e2))])] [0,1,2,3,4,5] rfl rfl rfl rfl (s_extract rfl rfl ⟨rfl,rfl,rfl⟩) (d_op (x_run0 [(24,PV.tup [PV.f (eSpan (meetV (vSp e1) (vSp e2))),pB (meetOk (vSp e1) (vSp e2))])] [0,1,2,3,4,5] rfl rfl rfl rfl (s_extract rfl rfl ⟨rfl,rfl,rfl⟩) (d_op (xT [] [] [] [(2,.obj [pI 0,pI 0])] [(1,.obj (cWindow e2)),(0,.obj (cWindow e1))] rfl rfl rfl rfl rfl (s_alloc tab_89 ⟨rfl,rfl,rfl⟩) rfl rfl (d_op ?_)))))
     refine xT [(7,PV.ptr 2 0),(30,PV.f (eSpan (meetV (vSp e1) (vSp e2))))] [0,1,2,3,4,5,6,8] [(2,.obj [pI 0,pI 0])] [(2,.obj (cSpan (meetV (vSp e1) (vSp e2))))] [(1,.obj (cWindow e2)),(0,.obj (cWindow e1))] rfl rfl rfl rfl rfl (s_store_ptr tab_89 rfl rfl rfl rfl rfl (Nat.le_of_ble_eq_true rfl) ⟨rfl,rfl,rfl⟩) rfl rfl (d_op (x_run0 [(31,pB (meetOk (vSp e1) (vSp e2)))] (.range 10) rfl rfl rfl rfl (s_assign rfl ⟨rfl,rfl,rfl⟩) (d_end ⟨by kernel_rfl, ?_⟩)))
     refine q_then (w_seq (w_R (qo hnt rfl (s_load_ptr tab_28 rfl rfl rfl (Nat.le_of_ble_eq_true rfl) ?_))))
     refine qo hnt rfl (s_load_ptr tab_28 rfl rfl rfl (Nat.le_of_ble_eq_true rfl) ?_)
     refine qo hnt rfl (s_callF rfl rfl rfl (w_window_meet e1 e2) rfl ?_)
     refine qm hnt rfl rfl (r_cut0 17 [(0,pS 4 cl_l eWindow l),(4,PV.ptr 0 0),(9,pS 4 cl_l eWindow l),(10,pN l.length),(11,pN i),(18,pS 4 false eWindow (l.take i)),(19,pN ((l.take i).length)),(20,pN j),(52,pB ((meetW e1 e2) || ((((meetOk (vSp e1) (vSp e2)) && (decide (e1.space = e2.space))) && (winR e1)) && (winR e2))))] ?_ ?_)
     ·refine r_if tabOk hnt rfl rfl rfl (fun g1 => ?_) (fun g1 => ?_)
      ·have g1' := g1
       try simp only [sB] at g1'
       refine qm hnt rfl rfl (ry hnt rfl rfl rfl g1 (qm hnt rfl rfl (r_cut0 6 [(0,pS 4 cl_l eWindow l),(4,PV.ptr 0 0),(6,PV.ptr 1 0),(9,pS 4 cl_l eWindow l),(10,pN l.length),(11,pN i),(18,pS 4 false eWindow (l.take i)),(19,pN ((l.take i).length)),(20,pN j),(35,pB (meetW e1 e2)),(36,pB (meetOk (vSp e1) (vSp e2))),(37,pB (meetOk (vSp e1) (vSp e2))),(43,pB ((meetOk (vSp e1) (vSp e2)) && (decide (e1.space = e2.space))))] ?_ ?_)))
       ·refine r_if tabOk hnt rfl rfl rfl (fun g2 => ?_) (fun g2 => ?_)
        ·have g2' := g2
         try simp only [sB] at g2'
         refine qo hnt rfl (s_fa_ptr tab_28 rfl rfl tab_3 (by decide) rfl ?_)
         refine ry hnt rfl rfl rfl g2 (qo hnt rfl (s_load_ptr1 tab_3 rfl rfl rfl rfl rfl ?_))
         refine ry hnt rfl rfl rfl g2 (qo hnt rfl (s_fa_ptr tab_28 rfl rfl tab_3 (by decide) rfl ?_))
         refine ry hnt rfl rfl rfl g2 (qo hnt rfl (s_load_ptr1 tab_3 rfl rfl rfl rfl rfl ?_))
         refine ry hnt rfl rfl rfl g2 (qo hnt rfl (s_eql rfl rfl ?_))
         refine ry hnt rfl rfl rfl g1 (qo hnt rfl (s_pick_t rfl g2 rfl ?_))
         refine r_eq (s := 43) (y := pB ((meetOk (vSp e1) (vSp e2)) && (decide (e1.space = e2.space)))) rfl (mix_at g2) ?_
         exact r_mid ⟨⟨rfl,rfl,rfl,rfl,rfl,rfl,rfl,rfl,rfl,rfl,rfl,rfl,rfl,trivial⟩,rfl,rfl⟩
        ·have g2' := g2
         try simp only [sB] at g2'
         refine rn hnt rfl rfl rfl g2 (rn hnt rfl rfl rfl g2 (rn hnt rfl rfl rfl g2 (rn hnt rfl rfl rfl g2 (ry hnt rfl rfl rfl g1 (qo hnt rfl (s_pick_f rfl g2 rfl ?_))))))
         refine r_eq (s := 43) (y := pB ((meetOk (vSp e1) (vSp e2)) && (decide (e1.space = e2.space)))) rfl (mix_af _ g2) ?_
         exact r_mid ⟨⟨rfl,rfl,rfl,rfl,rfl,rfl,rfl,rfl,rfl,rfl,rfl,rfl,rfl,trivial⟩,rfl,rfl⟩
       ·refine ry hnt rfl rfl rfl g1 (qm hnt rfl rfl (r_cut0 3 [(0,pS 4 cl_l eWindow l),(4,PV.ptr 0 0),(6,PV.ptr 1 0),(9,pS 4 cl_l eWindow l),(10,pN l.length),(11,pN i),(18,pS 4 false eWindow (l.take i)),(19,pN ((l.take i).length)),(20,pN j),(35,pB (meetW e1 e2)),(36,pB (meetOk (vSp e1) (vSp e2))),(37,pB (meetOk (vSp e1) (vSp e2))),(43,pB ((meetOk (vSp e1) (vSp e2)) && (decide (e1.space = e2.space)))),(44,pB ((meetOk (vSp e1) (vSp e2)) && (decide (e1.space = e2.space)))),(47,pB (((meetOk (vSp e1) (vSp e2)) && (decide (e1.space = e2.space))) && (winR e1)))] ?_ ?_))
        ·refine r_if tabOk hnt rfl rfl rfl (fun g3 => ?_) (fun g3 => ?_)
         ·have g3' := g3
          try simp only [sB] at g3'
          refine qo hnt rfl (s_load_ptr tab_28 rfl rfl rfl (Nat.le_of_ble_eq_true rfl) ?_)
          refine ry hnt rfl rfl rfl g3 (qo hnt rfl (s_callF rfl rfl rfl (w_window_Right e1) rfl ?_))
          refine ry hnt rfl rfl rfl g1 (qo hnt rfl (s_pick_t rfl g3 rfl ?_))
          refine r_eq (s := 47) (y := pB (((meetOk (vSp e1) (vSp e2)) && (decide (e1.space = e2.space))) && (winR e1))) rfl (mix_at g3) ?_
          exact r_mid ⟨⟨rfl,rfl,rfl,rfl,rfl,rfl,rfl,rfl,rfl,rfl,rfl,rfl,rfl,rfl,rfl,trivial⟩,rfl,rfl⟩
         ·have g3' := g3
          try simp only [sB] at g3'
          refine rn hnt rfl rfl rfl g3 (ry hnt rfl rfl rfl g1 (qo hnt rfl (s_pick_f rfl g3 rfl ?_)))
          refine r_eq (s := 47) (y := pB (((meetOk (vSp e1) (vSp e2)) && (decide (e1.space = e2.space))) && (winR e1))) rfl (mix_af _ g3) ?_
          exact r_mid ⟨⟨rfl,rfl,rfl,rfl,rfl,rfl,rfl,rfl,rfl,rfl,rfl,rfl,rfl,rfl,rfl,trivial⟩,rfl,rfl⟩
        ·refine ry hnt rfl rfl rfl g1 (qm hnt rfl rfl (r_cut0 3 [(0,pS 4 cl_l eWindow l),(4,PV.ptr 0 0),(9,pS 4 cl_l eWindow l),(10,pN l.length),(11,pN i),(18,pS 4 false eWindow (l.take i)),(19,pN ((l.take i).length)),(20,pN j),(35,pB (meetW e1 e2)),(36,pB (meetOk (vSp e1) (vSp e2))),(37,pB (meetOk (vSp e1) (vSp e2))),(43,pB ((meetOk (vSp e1) (vSp e2)) && (decide (e1.space = e2.space)))),(44,pB ((meetOk (vSp e1) (vSp e2)) && (decide (e1.space = e2.space)))),(47,pB (((meetOk (vSp e1) (vSp e2)) && (decide (e1.space = e2.space))) && (winR e1))),(48,pB (((meetOk (vSp e1) (vSp e2)) && (decide (e1.space = e2.space))) && (winR e1))),(51,pB ((((meetOk (vSp e1) (vSp e2)) && (decide (e1.space = e2.space))) && (winR e1)) && (winR e2)))] ?_ ?_))
         ·refine r_if tabOk hnt rfl rfl rfl (fun g4 => ?_) (fun g4 => ?_)
          ·have g4' := g4
           try simp only [sB] at g4'
           refine qo hnt rfl (s_load_ptr tab_28 rfl rfl rfl (Nat.le_of_ble_eq_true rfl) ?_)
           refine ry hnt rfl rfl rfl g4 (qo hnt rfl (s_callF rfl rfl rfl (w_window_Right e2) rfl ?_))
           refine ry hnt rfl rfl rfl g1 (qo hnt rfl (s_pick_t rfl g4 rfl ?_))
           refine r_eq (s := 51) (y := pB ((((meetOk (vSp e1) (vSp e2)) && (decide (e1.space = e2.space))) && (winR e1)) && (winR e2))) rfl (mix_at g4) ?_
           exact r_mid ⟨⟨rfl,rfl,rfl,rfl,rfl,rfl,rfl,rfl,rfl,rfl,rfl,rfl,rfl,rfl,rfl,rfl,trivial⟩,rfl,rfl⟩
          ·have g4' := g4
           try simp only [sB] at g4'
           refine rn hnt rfl rfl rfl g4 (ry hnt rfl rfl rfl g1 (qo hnt rfl (s_pick_f rfl g4 rfl ?_)))
           refine r_eq (s := 51) (y := pB ((((meetOk (vSp e1) (vSp e2)) && (decide (e1.space = e2.space))) && (winR e1)) && (winR e2))) rfl (mix_af _ g4) ?_
           exact r_mid ⟨⟨rfl,rfl,rfl,rfl,rfl,rfl,rfl,rfl,rfl,rfl,rfl,rfl,rfl,rfl,rfl,rfl,trivial⟩,rfl,rfl⟩
         ·refine qo hnt rfl (s_pick_f rfl g1 rfl ?_)
          refine r_eq (s := 52) (y := pB ((meetW e1 e2) || ((((meetOk (vSp e1) (vSp e2)) && (decide (e1.space = e2.space))) && (winR e1)) && (winR e2)))) rfl (mix_of g1) ?_
          exact r_mid ⟨⟨rfl,rfl,rfl,rfl,rfl,rfl,rfl,rfl,rfl,trivial⟩,rfl,rfl⟩
      ·have g1' := g1
       try simp only [sB] at g1'
       refine rn hnt rfl rfl rfl g1 (ru hnt rfl rfl rfl (ru hnt rfl rfl rfl (ru hnt rfl rfl rfl (ru hnt rfl rfl rfl (ru hnt rfl rfl rfl ?_)))))
       refine rn hnt rfl rfl rfl g1 (rn hnt rfl rfl rfl g1 (ru hnt rfl rfl rfl (ru hnt rfl rfl rfl (rn hnt rfl rfl rfl g1 (rn hnt rfl rfl rfl g1 ?_)))))
       refine ru hnt rfl rfl rfl (ru hnt rfl rfl rfl (rn hnt rfl rfl rfl g1 (qo hnt rfl (s_pick_t rfl g1 rfl ?_))))
       refine r_eq (s := 52) (y := pB ((meetW e1 e2) || ((((meetOk (vSp e1) (vSp e2)) && (decide (e1.space = e2.space))) && (winR e1)) && (winR e2)))) rfl (mix_ot _ g1) ?_
       exact r_mid ⟨⟨rfl,rfl,rfl,rfl,rfl,rfl,rfl,rfl,rfl,trivial⟩,rfl,rfl⟩
     ·refine r_end (q_then (w_if rfl (fun c3 => ?_) (fun c3 => ?_)))
      ·have c3_ := c3
       try simp only [sB] at c3
       refine w_seq (w_R (qa hnt rfl rfl (r_end (q_then (w_le (s := 2) (y := pB (ownW l)) rfl (le_of_eq (congrArg pB (show false = (ownW l) by exact (own_no he1 he2 c3_).symm))) ?_)))))
       refine w_ret (q_block_ret (q_then_ret (q_then_ret (q_block_ret (q_block_ret ?_)))))
       refine q_then_ret (q_then_ret (q_block_ret (q_then_ret ?_)))
       exact fin_plain (ret_tmp rfl ret_nil) rfl rfl ⟨rfl,rfl,rfl⟩
      have c3_ := c3
      try simp only [sB] at c3
      refine w_skip (q_block (q_then (w_R (qo hnt rfl (s_addN (a := j) (b := 1) rfl rfl (by omega) (by omega) (by omega) ?_)))))
      refine qm hnt rfl rfl (r_end (q_then (⟨(j + 1), ?_, ?_,⟨[(0,0)],by rw [hk]; decide,⟨⟨_,rfl,rfl,rfl⟩,⟨_,rfl,rfl,rfl⟩,⟨_,rfl,rfl,rfl⟩,⟨_,rfl,rfl,rfl⟩,⟨_,rfl,rfl,rfl⟩,⟨_,rfl,rfl,rfl⟩,⟨_,rfl,rfl,rfl⟩,⟨_,rfl,rfl,rfl⟩,trivial⟩,⟨⟨_,_,rfl,rfl,rfl,rfl⟩,trivial⟩,by rw [hk]; decide⟩⟩)))
      ·refine ⟨by omega,fun q b hq hb => ?_⟩
       by_cases hqj : q < j
       · exact hnb q b hqj hb
       · obtain rfl : q = j := by omega
         rw [he2] at hb; cases hb; exact c3_
      · omega
    try simp only [sB] at c2
    refine w_exit (q_then_exit (q_then_exit (q_block_exit (q_block (q_then ?_)))))
    refine w_R (qo hnt rfl (s_addN (a := i) (b := 1) rfl rfl (by omega) (by omega) (by omega) ?_))
    refine qm hnt rfl rfl (r_end (q_then (⟨(i + 1), ?_, ?_,⟨[],rfl,⟨⟨_,rfl,rfl,rfl⟩,⟨_,rfl,rfl,rfl⟩,⟨_,rfl,rfl,rfl⟩,⟨_,rfl,rfl,rfl⟩,trivial⟩,trivial,by rw [hk]; decide⟩⟩)))
    ·exact ⟨by omega,own_row he1 hno (fun j b hj hb => hnb j b (by omega) hb)⟩
    · omega
  try simp only [sB] at c1
  refine w_exit (q_then_exit (q_then_exit (q_block_exit (q_then (w_seq ?_)))))
  refine w_R (qa hnt rfl rfl (r_end (q_then (w_le (s := 2) (y := pB (ownW l)) rfl (le_of_eq (congrArg pB (show true = (ownW l) by exact (own_yes (fun k j x y hj hx hy => hno k j x y (by have := (List.getElem?_eq_some_iff.1 hx).1; omega) hj hx hy)).symm))) ?_))))
  refine w_ret ?_
  exact fin_plain (ret_tmp rfl ret_nil) rfl rfl ⟨rfl,rfl,rfl⟩
end Go.Proofs.Ytljkbpgcglomfaa
set_option linter.unusedVariables false
set_option linter.unusedSimpArgs false
namespace Go.Proofs.Ytljkbpgcglomfaa
open Go Go.Proofs.Ytljkbpgcglomfaa.Pv
def four (a b c d : Int) (s : Int) : Int := if s = 0 then a else if s = 1 then b else if s = 2 then c else d
structure WInv (lo : Int) (l : List TWindow) (v f : Int → Int) : Prop where
  vb : ∀ s,0 ≤ s ∧ s ≤ 3 → 0 ≤ v s ∧ v s ≤ 23 * l.length
  fb : ∀ s,0 ≤ s ∧ s ≤ 3 → lo ≤ f s ∧ f s ≤ lo + 20 * l.length
  mem : ∀ w ∈ l,(0 ≤ w.space ∧ w.space ≤ 3) ∧ 1 ≤ w.count ∧ 0 ≤ w.virtual ∧ lo ≤ w.physical ∧ w.virtual + w.count ≤ v w.space ∧ w.physical + w.count ≤ f w.space
  row : l.Pairwise fun x y => x.space = y.space → x.virtual + x.count ≤ y.virtual ∧ x.physical + x.count ≤ y.physical
theorem WInv.nil (lo : Int) : WInv lo [] (four 0 0 0 0) (four lo lo lo lo) := by
  refine ⟨fun s _ => ?_,fun s _ => ?_,fun w hw => by simp at hw,List.Pairwise.nil⟩
  · unfold four; simp
  · unfold four; simp
theorem WInv.step {lo : Int} {l : List TWindow} {v f v' f' : Int → Int} (h : WInv lo l v f) {s d e n : Int} (hs : 0 ≤ s ∧ s ≤ 3) (hd : 0 ≤ d ∧ d ≤ 5) (he : 0 ≤ e ∧ e ≤ 2) (hn : 1 ≤ n ∧ n ≤ 18)
    (hv : ∀ x,0 ≤ x ∧ x ≤ 3 → v' x = if x = s then v s + d + n else v x) (hf : ∀ x,0 ≤ x ∧ x ≤ 3 → f' x = if x = s then f s + e + n else f x) : WInv lo (l ++ [⟨s,v s + d,f s + e,n⟩]) v' f' := by
  obtain ⟨vb,fb,mem,row⟩ := h
  have hl : ((l ++ [(⟨s,v s + d,f s + e,n⟩ : TWindow)]).length : Int) = l.length + 1 := by simp
  refine ⟨fun x hx => ?_,fun x hx => ?_,fun w hw => ?_, ?_⟩
  · rw [hv x hx,hl]; have h1 := vb x hx; have h2 := vb s hs; split <;> omega
  · rw [hf x hx,hl]; have h1 := fb x hx; have h2 := fb s hs; split <;> omega
  · have hvb := vb s hs
    have hfb := fb s hs
    rcases List.mem_append.1 hw with h|h
    · obtain ⟨a,b,c,c2,g,k⟩ := mem w h
      rw [hv _ a,hf _ a]
      refine ⟨a,b,c,c2, ?_, ?_⟩
      · split
        · rename_i hx; rw [hx] at g; omega
        · exact g
      · split
        · rename_i hx; rw [hx] at k; omega
        · exact k
    · have h := List.mem_singleton.1 h
      subst h
      simp only
      rw [hv _ hs,hf _ hs,if_pos rfl,if_pos rfl]
      exact ⟨hs,by omega,by omega,by omega,by omega,by omega⟩
  · rw [List.pairwise_append]
    refine ⟨row,List.pairwise_singleton _ _,fun x hx y hy hxy => ?_⟩
    have hy := List.mem_singleton.1 hy
    subst hy
    obtain ⟨a,b,c,c2,g,k⟩ := mem x hx
    simp only at hxy ⊢
    rw [hxy] at g k
    omega
theorem WInv.step0 {lo v0 v1 v2 v3 f0 f1 f2 f3 d e n : Int} {l : List TWindow} (h : WInv lo l (four v0 v1 v2 v3) (four f0 f1 f2 f3)) (hd : 0 ≤ d ∧ d ≤ 5) (he : 0 ≤ e ∧ e ≤ 2) (hn : 1 ≤ n ∧ n ≤ 18) :
    WInv lo (l ++ [⟨0,v0 + d,f0 + e,n⟩]) (four (v0 + d + n) v1 v2 v3) (four (f0 + e + n) f1 f2 f3) :=
  h.step (s := 0) (by decide) hd he hn (fun x hx => by unfold four; (repeat' split) <;> omega) (fun x hx => by unfold four; (repeat' split) <;> omega)
theorem WInv.step1 {lo v0 v1 v2 v3 f0 f1 f2 f3 d e n : Int} {l : List TWindow} (h : WInv lo l (four v0 v1 v2 v3) (four f0 f1 f2 f3)) (hd : 0 ≤ d ∧ d ≤ 5) (he : 0 ≤ e ∧ e ≤ 2) (hn : 1 ≤ n ∧ n ≤ 18) :
    WInv lo (l ++ [⟨1,v1 + d,f1 + e,n⟩]) (four v0 (v1 + d + n) v2 v3) (four f0 (f1 + e + n) f2 f3) :=
  h.step (s := 1) (by decide) hd he hn (fun x hx => by unfold four; (repeat' split) <;> omega) (fun x hx => by unfold four; (repeat' split) <;> omega)
theorem WInv.step2 {lo v0 v1 v2 v3 f0 f1 f2 f3 d e n : Int} {l : List TWindow} (h : WInv lo l (four v0 v1 v2 v3) (four f0 f1 f2 f3)) (hd : 0 ≤ d ∧ d ≤ 5) (he : 0 ≤ e ∧ e ≤ 2) (hn : 1 ≤ n ∧ n ≤ 18) :
    WInv lo (l ++ [⟨2,v2 + d,f2 + e,n⟩]) (four v0 v1 (v2 + d + n) v3) (four f0 f1 (f2 + e + n) f3) :=
  h.step (s := 2) (by decide) hd he hn (fun x hx => by unfold four; (repeat' split) <;> omega) (fun x hx => by unfold four; (repeat' split) <;> omega)
theorem WInv.step3 {lo v0 v1 v2 v3 f0 f1 f2 f3 d e n : Int} {l : List TWindow} (h : WInv lo l (four v0 v1 v2 v3) (four f0 f1 f2 f3)) (hd : 0 ≤ d ∧ d ≤ 5) (he : 0 ≤ e ∧ e ≤ 2) (hn : 1 ≤ n ∧ n ≤ 18) :
    WInv lo (l ++ [⟨3,v3 + d,f3 + e,n⟩]) (four v0 v1 v2 (v3 + d + n)) (four f0 f1 f2 (f3 + e + n)) :=
  h.step (s := 3) (by decide) hd he hn (fun x hx => by unfold four; (repeat' split) <;> omega) (fun x hx => by unfold four; (repeat' split) <;> omega)
structure WinsOk (l : List TWindow) : Prop where
  len : l.length ≤ 6
  right : ∀ w ∈ l,winR w = true ∧ w.virtual + w.count ≤ 138
  row : l.Pairwise fun x y => x.space = y.space → x.virtual + x.count ≤ y.virtual ∧ x.physical + x.count ≤ y.physical
theorem WInv.ok {lo : Int} {l : List TWindow} {v f : Int → Int} (h : WInv lo l v f) (hl : l.length ≤ 6) (hlo : 0 ≤ lo ∧ lo ≤ 384) : WinsOk l := by
  refine ⟨hl,fun w hw => ?_,h.row⟩
  obtain ⟨a,b,c,c2,g,k⟩ := h.mem w hw
  have h1 := h.vb w.space a
  have h2 := h.fb w.space a
  exact ⟨(winR_iff w).2 ⟨a,by omega,by omega⟩,by omega⟩
theorem WinsOk.two {l : List TWindow} (h : WinsOk l) {i j : Nat} {a b : TWindow} (hj : j < i) (ha : l[i]? = some a) (hb : l[j]? = some b) (hs : a.space = b.space) : b.virtual + b.count ≤ a.virtual ∧ b.physical + b.count ≤ a.physical := by
  obtain ⟨h1,rfl⟩ := List.getElem?_eq_some_iff.1 ha
  obtain ⟨h2,rfl⟩ := List.getElem?_eq_some_iff.1 hb
  exact List.pairwise_iff_getElem.1 h.row j i h2 h1 hj hs.symm
theorem meet_no {a b : TSpan} (h : b.at_ + b.count ≤ a.at_) : meetOk a b = false := by
  rw [Bool.eq_false_iff]
  intro hm
  have := (meetOk_iff a b).1 hm
  omega
theorem WinsOk.own {l : List TWindow} (h : WinsOk l) : ownW l = true := by
  refine own_yes fun i j a b hj ha hb => ?_
  by_cases hs : a.space = b.space
  · obtain ⟨h1,h2⟩ := h.two hj ha hb hs
    unfold clashW meetW
    rw [meet_no (a := pSp a) (b := pSp b) h2,meet_no (a := vSp a) (b := vSp b) h1]
    rfl
  · unfold clashW meetW
    rw [decide_eq_false hs]
    simp
structure TabG (X : TTable) : Prop where
  len : 1 ≤ X.tenants.length ∧ X.tenants.length ≤ 4
  wins : ∀ p ∈ X.tenants,WinsOk p.windows
end Go.Proofs.Ytljkbpgcglomfaa
set_option linter.unusedVariables false
set_option linter.unusedSimpArgs false
set_option maxRecDepth 10000
set_option maxHeartbeats 1000000
namespace Go.Proofs.Ytljkbpgcglomfaa
open Go Go.Proofs.Ytljkbpgcglomfaa.Pv
theorem w_burgagekeep_Tape_windows (L : List Int) (cl_L : Bool) (a : Nat) (i : Nat) (hL : L.length ≤ 70000000000000) (hi3 : i ≤ 3) :
    T Try.prog 71 [PV.ptr 0 0,pN i] 1 [(0,.obj [pS 1 cl_L encI L,pN a])] (fun ra rb rc => ∃ q : List TWindow,∃ b : Nat,(WinsOk q) ∧ (Ret (pS 4 false eWindow q) 1 [(0,.obj [pS 1 false encI L,pN b])]) ra rb rc) := by
 refine t_fun tabOk (n := 71) (rs := [.tmp 4]) Try.func71 rfl rfl rfl rfl (Nat.le_of_ble_eq_true rfl) ?_
 intro c hnt hk
 refine w_seq (w_R (qa hnt rfl rfl (r_end (q_then (w_seq ?_)))))
 refine w_R (qa hnt rfl rfl (r_end (q_then (w_seq (w_R ?_)))))
 refine qm hnt rfl rfl (qo hnt rfl (s_mulN (a := 128) (b := i) rfl rfl (by omega) (by omega) (by omega) ?_))
 refine qm hnt rfl rfl (qo hnt rfl (s_mulN (a := 128) (b := i) rfl rfl (by omega) (by omega) (by omega) ?_))
 refine qm hnt rfl rfl (qo hnt rfl (s_mulN (a := 128) (b := i) rfl rfl (by omega) (by omega) (by omega) ?_))
 refine qm hnt rfl rfl (qo hnt rfl (s_mulN (a := 128) (b := i) rfl rfl (by omega) (by omega) (by omega) ?_))
 refine qo hnt rfl (s_buildA tab_145 rfl tab_3 (b_cons rfl tab_3 rfl rfl rfl (Nat.le_of_ble_eq_true rfl) (b_cons rfl tab_3 rfl rfl rfl (Nat.le_of_ble_eq_true rfl) (b_cons rfl tab_3 rfl rfl rfl (Nat.le_of_ble_eq_true rfl) (b_cons rfl tab_3 rfl rfl rfl (Nat.le_of_ble_eq_true rfl) (b_nilN (cs' := [pN (128 * i),pN (128 * i),pN (128 * i),pN (128 * i)]) rfl ?_))))))
 refine qo hnt rfl (s_alloc tab_145 ?_)
 refine qo hnt rfl (s_store_ptr tab_145 rfl rfl rfl rfl rfl (Nat.le_of_ble_eq_true rfl) ?_)
 refine r_set [(0,PV.ptr 0 0),(5,pNil),(6,PV.ptr 1 0)] [(1,.obj [pN (128 * i),pN (128 * i),pN (128 * i),pN (128 * i)]),(0,.obj [pS 1 cl_L encI L,pN a])] 2 ⟨rfl,rfl,rfl,trivial⟩ rfl rfl (r_end (q_then (w_seq (w_R (qo hnt rfl (s_buildA tab_145 rfl tab_3 (b_nil ?_)))))))
 refine qo hnt rfl (s_alloc tab_145 ?_)
 refine qo hnt rfl (s_store_ptr tab_145 rfl rfl rfl rfl rfl (Nat.le_of_ble_eq_true rfl) ?_)
 refine r_set [(0,PV.ptr 0 0),(5,pNil),(6,PV.ptr 1 0),(7,PV.ptr 2 0)] [(2,.obj [pI 0,pI 0,pI 0,pI 0]),(1,.obj [pN (128 * i),pN (128 * i),pN (128 * i),pN (128 * i)]),(0,.obj [pS 1 cl_L encI L,pN a])] 3 ⟨rfl,rfl,rfl,rfl,trivial⟩ rfl rfl (r_end (q_then (w_seq (w_seq (w_R ?_)))))
 refine qm hnt rfl rfl (qo hnt rfl (s_callX (r2 := pI (tNext L a 6)) (nx1 := 3) (H2 := [(2,.obj [pI 0,pI 0,pI 0,pI 0]),(1,.obj [pN (128 * i),pN (128 * i),pN (128 * i),pN (128 * i)]),(0,.obj [pS 1 cl_L encI L,pN a])]) (H3 := [(0,.obj [pS 1 false encI L,pN (tStep L a 6)]),(2,.obj [pI 0,pI 0,pI 0,pI 0]),(1,.obj [pN (128 * i),pN (128 * i),pN (128 * i),pN (128 * i)])]) [0] [.obj [pS 1 cl_L encI L,pN a]] rfl rfl rfl (handed_of (by decide) ⟨rfl,trivial⟩) rfl rfl rfl rfl rfl rfl (w_burgagekeep_Tape_Next L cl_L a 6 (by omega) (by omega)) rfl (dist_of rfl) rfl rfl rfl rfl ?_))
 refine qa hnt rfl rfl (r_set [(0,PV.ptr 0 0),(5,pNil),(6,PV.ptr 1 0),(7,PV.ptr 2 0),(8,pI (tNext L a 6))] [(0,.obj [pS 1 false encI L,pN (tStep L a 6)]),(2,.obj [pI 0,pI 0,pI 0,pI 0]),(1,.obj [pN (128 * i),pN (128 * i),pN (128 * i),pN (128 * i)])] 3 ⟨rfl,rfl,rfl,rfl,rfl,trivial⟩ rfl rfl (r_end (q_then (w_block (w_adopt (s := 5) (sz := 4) rfl ?_)))))
 refine loop11 (fun (ap : Nat) (os : List TWindow) (f0 : Int) (f1 : Int) (f2 : Int) (f3 : Int) (v0 : Int) (v1 : Int) (v2 : Int) (v3 : Int) (kk : Int) => (os.length : Int) + kk ≤ 5 ∧ -1 ≤ kk ∧ WInv ((128 * i : Nat) : Int) os (four v0 v1 v2 v3) (four f0 f1 f2 f3)) (fun (ap : Nat) (os : List TWindow) (f0 : Int) (f1 : Int) (f2 : Int) (f3 : Int) (v0 : Int) (v1 : Int) (v2 : Int) (v3 : Int) (kk : Int) => [(0,PV.ptr 0 0),(5,PV.ref 1 0 none),(6,PV.ptr 2 0),(7,PV.ptr 3 0),(8,pI kk)]) 4 (fun (ap : Nat) (os : List TWindow) (f0 : Int) (f1 : Int) (f2 : Int) (f3 : Int) (v0 : Int) (v1 : Int) (v2 : Int) (v3 : Int) (kk : Int) => [(0,.obj [pS 1 false encI L,pN ap]),(1,oB true 4 eWindow os),(2,.obj [pI f0,pI f1,pI f2,pI f3]),(3,.obj [pI v0,pI v1,pI v2,pI v3])]) (fun (ap : Nat) (os : List TWindow) (f0 : Int) (f1 : Int) (f2 : Int) (f3 : Int) (v0 : Int) (v1 : Int) (v2 : Int) (v3 : Int) (kk : Int) => (kk + 1).toNat) (tStep L a 6) (([] : List TWindow)) (((128 * i : Nat) : Int)) (((128 * i : Nat) : Int)) (((128 * i : Nat) : Int)) (((128 * i : Nat) : Int)) (0) (0) (0) (0) (tNext L a 6) ?_ ⟨[(0,0),(1,3),(2,1),(3,2)],by rw [hk]; decide,⟨⟨_,rfl,rfl,rfl⟩,⟨_,rfl,rfl,rfl⟩,⟨_,rfl,rfl,rfl⟩,⟨_,rfl,rfl,rfl⟩,⟨_,rfl,rfl,rfl⟩,trivial⟩,⟨⟨_,_,rfl,rfl,rfl,rfl⟩,⟨_,_,rfl,rfl,rfl,rfl⟩,⟨_,_,rfl,rfl,rfl,rfl⟩,⟨_,_,rfl,rfl,rfl,rfl⟩,trivial⟩,by rw [hk]; decide⟩ ?_
 · have h6 := tNext_lt L a (n := 6) (by decide); exact ⟨by simp; omega,by omega,WInv.nil _⟩
 ·intro ap os f0 f1 f2 f3 v0 v1 v2 v3 kk hI
  obtain ⟨hok,hkk,hW⟩ := hI
  have hv0 : 0 ≤ v0 ∧ v0 ≤ 23 * (os.length : Int) := hW.vb 0 (by decide)
  have hv1 : 0 ≤ v1 ∧ v1 ≤ 23 * (os.length : Int) := hW.vb 1 (by decide)
  have hv2 : 0 ≤ v2 ∧ v2 ≤ 23 * (os.length : Int) := hW.vb 2 (by decide)
  have hv3 : 0 ≤ v3 ∧ v3 ≤ 23 * (os.length : Int) := hW.vb 3 (by decide)
  have hf0 : ((128 * i : Nat) : Int) ≤ f0 ∧ f0 ≤ ((128 * i : Nat) : Int) + 20 * (os.length : Int) := hW.fb 0 (by decide)
  have hf1 : ((128 * i : Nat) : Int) ≤ f1 ∧ f1 ≤ ((128 * i : Nat) : Int) + 20 * (os.length : Int) := hW.fb 1 (by decide)
  have hf2 : ((128 * i : Nat) : Int) ≤ f2 ∧ f2 ≤ ((128 * i : Nat) : Int) + 20 * (os.length : Int) := hW.fb 2 (by decide)
  have hf3 : ((128 * i : Nat) : Int) ≤ f3 ∧ f3 ≤ ((128 * i : Nat) : Int) + 20 * (os.length : Int) := hW.fb 3 (by decide)
  refine w_seq (w_seq ?_)
  have hlo : (os.length : Int) ≤ 6 := by omega
  refine w_R (qm hnt rfl rfl (qo hnt rfl (s_geq rfl rfl ?_)))
  refine r_end (q_then (w_if rfl (fun c1 => ?_) (fun c1 => ?_)))
  ·try simp only [sB] at c1
   refine w_skip (q_then (w_seq (w_block (w_seq (w_R ?_)))))
   refine qo hnt rfl (s_mkM (f := encI) ([3,0,3,1,2,3] : List Int) tab_24 rfl tab_3 ⟨rfl,by decide⟩ (by decide) rfl rfl rfl rfl ?_)
   refine qm hnt rfl rfl (qo hnt rfl (s_callX (r2 := pI (tNext L ap 6)) (nx1 := 5) (H2 := [(4,oB true 1 encI ([3,0,3,1,2,3] : List Int)),(0,.obj [pS 1 false encI L,pN ap]),(1,oB true 4 eWindow os),(2,.obj [pI f0,pI f1,pI f2,pI f3]),(3,.obj [pI v0,pI v1,pI v2,pI v3])]) (H3 := [(0,.obj [pS 1 false encI L,pN (tStep L ap 6)]),(4,oB true 1 encI ([3,0,3,1,2,3] : List Int)),(1,oB true 4 eWindow os),(2,.obj [pI f0,pI f1,pI f2,pI f3]),(3,.obj [pI v0,pI v1,pI v2,pI v3])]) [0] [.obj [pS 1 false encI L,pN ap]] rfl rfl rfl (handed_of (by decide) ⟨rfl,trivial⟩) rfl rfl rfl rfl rfl rfl (w_burgagekeep_Tape_Next L false ap 6 (by omega) (by omega)) rfl (dist_of rfl) rfl rfl rfl rfl ?_))
   have hb29 := tNext_lt L ap (n := 6) (by decide)
   refine qo hnt rfl (s_iaR0 (q := Int.toNat (tNext L ap 6)) (f := encI) (l := ([3,0,3,1,2,3] : List Int)) tab_24 rfl tab_3 rfl rfl (by omega) rfl rfl (by simp; omega) ?_)
   obtain ⟨e1,he1⟩ := get_of_lt ([3,0,3,1,2,3] : List Int) (i := Int.toNat (tNext L ap 6)) (by simp; omega)
   refine qo hnt rfl (s_ldM (b := e1) (f := encI) tab_3 rfl rfl rfl rfl he1 rfl ?_)
   refine qa hnt rfl rfl (r_set [(0,PV.ptr 0 0),(5,PV.ref 1 0 none),(6,PV.ptr 2 0),(7,PV.ptr 3 0),(8,pI kk),(9,pI e1)] [(0,.obj [pS 1 false encI L,pN (tStep L ap 6)]),(4,oB true 1 encI ([3,0,3,1,2,3] : List Int)),(1,oB true 4 eWindow os),(2,.obj [pI f0,pI f1,pI f2,pI f3]),(3,.obj [pI v0,pI v1,pI v2,pI v3])] 5 ⟨rfl,rfl,rfl,rfl,rfl,rfl,trivial⟩ rfl rfl (r_end (q_then (w_seq ?_))))
   rcases (show e1 = 0 ∨ e1 = 1 ∨ e1 = 2 ∨ e1 = 3 from by have hm2 := List.mem_of_getElem? he1; simp only [List.mem_cons,List.not_mem_nil,or_false] at hm2; omega) with hs1|hs1|hs1|hs1
   ·refine w_eq (s := 9) (y := pI 0) rfl (congrArg pI hs1) (W_drawn tabOk mixed hnt [[],[],[1],[1,2],[],[],[5],[4,5,6],[4,5,6,7],[1,2,3,4,5,6,7,8],[],[10],[10,11],[],[5,6,13],[5,6,10,11,12,13,14],[],[5,6,13,14,16],[5,6,13,14,16,17],(.range 19),[],(.range 21)] (by kernel_rfl) (d_op (x_run0 [(9,pI 0)] [] rfl rfl rfl rfl (s_move rfl ⟨rfl,rfl,rfl⟩) (d_op (x_run0 [(9,pI 0)] [] rfl rfl rfl rfl (s_move rfl ⟨rfl,rfl,rfl⟩) ?_)))))
    refine d_op (xL [(7,PV.ptr 3 0),(33,pI 0)] [1] [(3,.obj [pI v0,pI v1,pI v2,pI v3])] rfl rfl rfl rfl rfl (s_ia_arrN (q := 0) tab_145 rfl tab_3 rfl (by omega) rfl (by omega) ⟨rfl,rfl,rfl⟩) ⟨rfl,trivial⟩ rfl (d_op (xL [(34,PV.ptr 3 0)] [1,2] [(3,.obj [pI v0,pI v1,pI v2,pI v3])] rfl rfl rfl rfl rfl (s_load_ptr1 tab_3 rfl rfl rfl rfl rfl ⟨rfl,rfl,rfl⟩) ⟨rfl,trivial⟩ rfl (d_op (xT [] [] [] [(5,oB true 1 encI ([0,0,0,5] : List Int))] [(0,.obj [pS 1 false encI L,pN (tStep L ap 6)]),(4,oB true 1 encI ([3,0,3,1,2,3] : List Int)),(1,oB true 4 eWindow os),(2,.obj [pI f0,pI f1,pI f2,pI f3]),(3,.obj [pI v0,pI v1,pI v2,pI v3])] rfl rfl rfl rfl rfl (s_mkM (f := encI) ([0,0,0,5] : List Int) tab_24 rfl tab_3 ⟨rfl,by decide⟩ (by decide) rfl rfl rfl rfl ⟨rfl,rfl,rfl⟩) rfl rfl ?_)))))
    refine d_op (x_run0 [(0,PV.ptr 0 0)] [] rfl rfl rfl rfl (s_move rfl ⟨rfl,rfl,rfl⟩) (d_op (xT [(37,PV.ptr 0 0)] [5] [(0,.obj [pS 1 false encI L,pN (tStep L ap 6)])] [(0,.obj [pS 1 false encI L,pN (tStep L (tStep L ap 6) 4)])] [(5,oB true 1 encI ([0,0,0,5] : List Int)),(4,oB true 1 encI ([3,0,3,1,2,3] : List Int)),(1,oB true 4 eWindow os),(2,.obj [pI f0,pI f1,pI f2,pI f3]),(3,.obj [pI v0,pI v1,pI v2,pI v3])] rfl rfl rfl rfl rfl (s_callX (r2 := pI (tNext L (tStep L ap 6) 4)) (nx1 := 6) (H2 := [(0,.obj [pS 1 false encI L,pN (tStep L ap 6)])]) (H3 := [(0,.obj [pS 1 false encI L,pN (tStep L (tStep L ap 6) 4)])]) [0] [.obj [pS 1 false encI L,pN (tStep L ap 6)]] rfl rfl rfl (handed_of (by decide) ⟨rfl,trivial⟩) rfl rfl rfl rfl rfl rfl (w_burgagekeep_Tape_Next L false (tStep L ap 6) 4 (by omega) (by omega)) rfl (dist_of rfl) rfl rfl rfl rfl ⟨rfl,rfl,rfl⟩) rfl rfl ?_)))
    have hb38 := tNext_lt L (tStep L ap 6) (n := 4) (by decide)
    refine d_op (xL [(36,PV.ref 5 0 none),(38,pI (tNext L (tStep L ap 6) 4))] [4,5,6] [(5,oB true 1 encI ([0,0,0,5] : List Int))] rfl rfl rfl rfl rfl (s_iaR0 (q := Int.toNat (tNext L (tStep L ap 6) 4)) (f := encI) (l := ([0,0,0,5] : List Int)) tab_24 rfl tab_3 rfl rfl (by omega) rfl rfl (by simp; omega) ⟨rfl,rfl,rfl⟩) ⟨rfl,trivial⟩ rfl (d_op ?_))
    obtain ⟨e2,he2⟩ := get_of_lt ([0,0,0,5] : List Int) (i := Int.toNat (tNext L (tStep L ap 6) 4)) (by simp; omega)
    refine xL [(39,PV.ep 5 (Int.toNat (tNext L (tStep L ap 6) 4)) 0)] [4,5,6,7] [(5,oB true 1 encI ([0,0,0,5] : List Int))] rfl rfl rfl rfl rfl (s_ldM (b := e2) (f := encI) tab_3 rfl rfl rfl rfl he2 rfl ⟨rfl,rfl,rfl⟩) ⟨rfl,trivial⟩ rfl ?_
    have hd4 := List.mem_of_getElem? he2
    simp only [List.mem_cons,List.not_mem_nil,or_false] at hd4
    refine d_op (x_run0 [(35,pI v0),(40,pI e2)] [1,2,3,4,5,6,7,8] rfl rfl rfl rfl (s_addi (r := v0 + e2) rfl rfl rfl (by omega) ⟨rfl,rfl,rfl⟩) (d_op (x_run0 [(9,pI 0)] [] rfl rfl rfl rfl (s_move rfl ⟨rfl,rfl,rfl⟩) (d_op (xL [(6,PV.ptr 2 0),(42,pI 0)] [10] [(2,.obj [pI f0,pI f1,pI f2,pI f3])] rfl rfl rfl rfl rfl (s_ia_arrN (q := 0) tab_145 rfl tab_3 rfl (by omega) rfl (by omega) ⟨rfl,rfl,rfl⟩) ⟨rfl,trivial⟩ rfl ?_)))))
    refine d_op (xL [(43,PV.ptr 2 0)] [10,11] [(2,.obj [pI f0,pI f1,pI f2,pI f3])] rfl rfl rfl rfl rfl (s_load_ptr1 tab_3 rfl rfl rfl rfl rfl ⟨rfl,rfl,rfl⟩) ⟨rfl,trivial⟩ rfl (d_op (x_run0 [(0,PV.ptr 0 0)] [] rfl rfl rfl rfl (s_move rfl ⟨rfl,rfl,rfl⟩) (d_op (xT [(45,PV.ptr 0 0)] [5,6,13] [(0,.obj [pS 1 false encI L,pN (tStep L (tStep L ap 6) 4)])] [(0,.obj [pS 1 false encI L,pN (tStep L (tStep L (tStep L ap 6) 4) 3)])] [(5,oB true 1 encI ([0,0,0,5] : List Int)),(4,oB true 1 encI ([3,0,3,1,2,3] : List Int)),(1,oB true 4 eWindow os),(2,.obj [pI f0,pI f1,pI f2,pI f3]),(3,.obj [pI v0,pI v1,pI v2,pI v3])] rfl rfl rfl rfl rfl (s_callX (r2 := pI (tNext L (tStep L (tStep L ap 6) 4) 3)) (nx1 := 6) (H2 := [(0,.obj [pS 1 false encI L,pN (tStep L (tStep L ap 6) 4)])]) (H3 := [(0,.obj [pS 1 false encI L,pN (tStep L (tStep L (tStep L ap 6) 4) 3)])]) [0] [.obj [pS 1 false encI L,pN (tStep L (tStep L ap 6) 4)]] rfl rfl rfl (handed_of (by decide) ⟨rfl,trivial⟩) rfl rfl rfl rfl rfl rfl (w_burgagekeep_Tape_Next L false (tStep L (tStep L ap 6) 4) 3 (by omega) (by omega)) rfl (dist_of rfl) rfl rfl rfl rfl ⟨rfl,rfl,rfl⟩) rfl rfl ?_)))))
    have hb46 := tNext_lt L (tStep L (tStep L ap 6) 4) (n := 3) (by decide)
    refine d_op (x_run0 [(44,pI f0),(46,pI (tNext L (tStep L (tStep L ap 6) 4) 3))] [5,6,10,11,12,13,14] rfl rfl rfl rfl (s_addi (r := f0 + (tNext L (tStep L (tStep L ap 6) 4) 3)) rfl rfl rfl (by omega) ⟨rfl,rfl,rfl⟩) (d_op (x_run0 [(0,PV.ptr 0 0)] [] rfl rfl rfl rfl (s_move rfl ⟨rfl,rfl,rfl⟩) (d_op (xT [(48,PV.ptr 0 0)] [5,6,13,14,16] [(0,.obj [pS 1 false encI L,pN (tStep L (tStep L (tStep L ap 6) 4) 3)])] [(0,.obj [pS 1 false encI L,pN (tStep L (tStep L (tStep L (tStep L ap 6) 4) 3) 18)])] [(5,oB true 1 encI ([0,0,0,5] : List Int)),(4,oB true 1 encI ([3,0,3,1,2,3] : List Int)),(1,oB true 4 eWindow os),(2,.obj [pI f0,pI f1,pI f2,pI f3]),(3,.obj [pI v0,pI v1,pI v2,pI v3])] rfl rfl rfl rfl rfl (s_callX (r2 := pI (tNext L (tStep L (tStep L (tStep L ap 6) 4) 3) 18)) (nx1 := 6) (H2 := [(0,.obj [pS 1 false encI L,pN (tStep L (tStep L (tStep L ap 6) 4) 3)])]) (H3 := [(0,.obj [pS 1 false encI L,pN (tStep L (tStep L (tStep L (tStep L ap 6) 4) 3) 18)])]) [0] [.obj [pS 1 false encI L,pN (tStep L (tStep L (tStep L ap 6) 4) 3)]] rfl rfl rfl (handed_of (by decide) ⟨rfl,trivial⟩) rfl rfl rfl rfl rfl rfl (w_burgagekeep_Tape_Next L false (tStep L (tStep L (tStep L ap 6) 4) 3) 18 (by omega) (by omega)) rfl (dist_of rfl) rfl rfl rfl rfl ⟨rfl,rfl,rfl⟩) rfl rfl ?_)))))
    have hb49 := tNext_lt L (tStep L (tStep L (tStep L ap 6) 4) 3) (n := 18) (by decide)
    refine d_op (x_run0 [(49,pI (tNext L (tStep L (tStep L (tStep L ap 6) 4) 3) 18))] [5,6,13,14,16,17] rfl rfl rfl rfl (s_addi (r := 1 + (tNext L (tStep L (tStep L (tStep L ap 6) 4) 3) 18)) rfl rfl rfl (by omega) ⟨rfl,rfl,rfl⟩) (d_op (x_run0 [(32,pI 0),(41,pI (v0 + e2)),(47,pI (f0 + (tNext L (tStep L (tStep L ap 6) 4) 3))),(50,pI (1 + (tNext L (tStep L (tStep L (tStep L ap 6) 4) 3) 18)))] (.range 19) rfl rfl rfl rfl (s_build tab_28 rfl rfl (b_cons rfl tab_3 rfl rfl rfl (Nat.le_of_ble_eq_true rfl) (b_cons rfl tab_3 rfl rfl rfl (Nat.le_of_ble_eq_true rfl) (b_cons rfl tab_3 rfl rfl rfl (Nat.le_of_ble_eq_true rfl) (b_cons rfl tab_3 rfl rfl rfl (Nat.le_of_ble_eq_true rfl) (b_nilN (cs' := [pI 0,pI (v0 + e2),pI (f0 + (tNext L (tStep L (tStep L ap 6) 4) 3)),pI (1 + (tNext L (tStep L (tStep L (tStep L ap 6) 4) 3) 18))]) rfl ⟨rfl,rfl,rfl⟩)))))) (d_op (xT [] [] [] [(6,.obj [pI 0,pI 0,pI 0,pI 0])] [(0,.obj [pS 1 false encI L,pN (tStep L (tStep L (tStep L (tStep L ap 6) 4) 3) 18)]),(5,oB true 1 encI ([0,0,0,5] : List Int)),(4,oB true 1 encI ([3,0,3,1,2,3] : List Int)),(1,oB true 4 eWindow os),(2,.obj [pI f0,pI f1,pI f2,pI f3]),(3,.obj [pI v0,pI v1,pI v2,pI v3])] rfl rfl rfl rfl rfl (s_alloc tab_28 ⟨rfl,rfl,rfl⟩) rfl rfl ?_)))))
    refine d_op (xT [(10,PV.ptr 6 0),(51,PV.f (.agg [encI 0,encI (v0 + e2),encI (f0 + (tNext L (tStep L (tStep L ap 6) 4) 3)),encI (1 + (tNext L (tStep L (tStep L (tStep L ap 6) 4) 3) 18))]))] (.range 21) [(6,.obj [pI 0,pI 0,pI 0,pI 0])] [(6,.obj [pI 0,pI (v0 + e2),pI (f0 + (tNext L (tStep L (tStep L ap 6) 4) 3)),pI (1 + (tNext L (tStep L (tStep L (tStep L ap 6) 4) 3) 18))])] [(0,.obj [pS 1 false encI L,pN (tStep L (tStep L (tStep L (tStep L ap 6) 4) 3) 18)]),(5,oB true 1 encI ([0,0,0,5] : List Int)),(4,oB true 1 encI ([3,0,3,1,2,3] : List Int)),(1,oB true 4 eWindow os),(2,.obj [pI f0,pI f1,pI f2,pI f3]),(3,.obj [pI v0,pI v1,pI v2,pI v3])] rfl rfl rfl rfl rfl (s_store_ptr tab_28 rfl rfl rfl rfl rfl (Nat.le_of_ble_eq_true rfl) ⟨rfl,rfl,rfl⟩) rfl rfl (d_end ⟨by kernel_rfl, ?_⟩))
    refine q_then (w_seq (W_drawn tabOk mixed hnt [[],[],[],[2],[],[4],[2,3,4,5],[],[7],[],[9],[7,8,9,10],[0,2,3,4,5,6],[0,2,3,4,5,6,12],(.range 14),(.range 15)] (by kernel_rfl) (d_op (x_run0 [(9,pI 0)] [] rfl rfl rfl rfl (s_move rfl ⟨rfl,rfl,rfl⟩) (d_op ?_)))))
    refine x_run0 [(9,pI 0)] [] rfl rfl rfl rfl (s_move rfl ⟨rfl,rfl,rfl⟩) (d_op (x_run0 [(10,PV.ptr 6 0)] [] rfl rfl rfl rfl (s_fa_ptr tab_28 rfl rfl tab_3 (by decide) rfl ⟨rfl,rfl,rfl⟩) (d_op (xL [(54,PV.ptr 6 1)] [2] [(6,.obj [pI 0,pI (v0 + e2),pI (f0 + (tNext L (tStep L (tStep L ap 6) 4) 3)),pI (1 + (tNext L (tStep L (tStep L (tStep L ap 6) 4) 3) 18))])] rfl rfl rfl rfl rfl (s_load_ptr1 tab_3 rfl rfl rfl rfl rfl ⟨rfl,rfl,rfl⟩) ⟨rfl,trivial⟩ rfl (d_op ?_)))))
    refine x_run0 [(10,PV.ptr 6 0)] [] rfl rfl rfl rfl (s_fa_ptr tab_28 rfl rfl tab_3 (by decide) rfl ⟨rfl,rfl,rfl⟩) (d_op (xL [(56,PV.ptr 6 3)] [4] [(6,.obj [pI 0,pI (v0 + e2),pI (f0 + (tNext L (tStep L (tStep L ap 6) 4) 3)),pI (1 + (tNext L (tStep L (tStep L (tStep L ap 6) 4) 3) 18))])] rfl rfl rfl rfl rfl (s_load_ptr1 tab_3 rfl rfl rfl rfl rfl ⟨rfl,rfl,rfl⟩) ⟨rfl,trivial⟩ rfl (d_op (x_run0 [(55,pI (v0 + e2)),(57,pI (1 + (tNext L (tStep L (tStep L (tStep L ap 6) 4) 3) 18)))] [2,3,4,5] rfl rfl rfl rfl (s_addi (r := (v0 + e2) + (1 + (tNext L (tStep L (tStep L (tStep L ap 6) 4) 3) 18))) rfl rfl rfl (by omega) ⟨rfl,rfl,rfl⟩) (d_op ?_)))))
    refine x_run0 [(10,PV.ptr 6 0)] [] rfl rfl rfl rfl (s_fa_ptr tab_28 rfl rfl tab_3 (by decide) rfl ⟨rfl,rfl,rfl⟩) (d_op (xL [(59,PV.ptr 6 2)] [7] [(6,.obj [pI 0,pI (v0 + e2),pI (f0 + (tNext L (tStep L (tStep L ap 6) 4) 3)),pI (1 + (tNext L (tStep L (tStep L (tStep L ap 6) 4) 3) 18))])] rfl rfl rfl rfl rfl (s_load_ptr1 tab_3 rfl rfl rfl rfl rfl ⟨rfl,rfl,rfl⟩) ⟨rfl,trivial⟩ rfl (d_op (x_run0 [(10,PV.ptr 6 0)] [] rfl rfl rfl rfl (s_fa_ptr tab_28 rfl rfl tab_3 (by decide) rfl ⟨rfl,rfl,rfl⟩) (d_op ?_)))))
    refine xL [(61,PV.ptr 6 3)] [9] [(6,.obj [pI 0,pI (v0 + e2),pI (f0 + (tNext L (tStep L (tStep L ap 6) 4) 3)),pI (1 + (tNext L (tStep L (tStep L (tStep L ap 6) 4) 3) 18))])] rfl rfl rfl rfl rfl (s_load_ptr1 tab_3 rfl rfl rfl rfl rfl ⟨rfl,rfl,rfl⟩) ⟨rfl,trivial⟩ rfl (d_op (x_run0 [(60,pI (f0 + (tNext L (tStep L (tStep L ap 6) 4) 3))),(62,pI (1 + (tNext L (tStep L (tStep L (tStep L ap 6) 4) 3) 18)))] [7,8,9,10] rfl rfl rfl rfl (s_addi (r := (f0 + (tNext L (tStep L (tStep L ap 6) 4) 3)) + (1 + (tNext L (tStep L (tStep L (tStep L ap 6) 4) 3) 18))) rfl rfl rfl (by omega) ⟨rfl,rfl,rfl⟩) (d_op (xL [(7,PV.ptr 3 0),(52,pI 0)] [0,2,3,4,5,6] [(3,.obj [pI v0,pI v1,pI v2,pI v3])] rfl rfl rfl rfl rfl (s_ia_arrN (q := 0) tab_145 rfl tab_3 rfl (by omega) rfl (by omega) ⟨rfl,rfl,rfl⟩) ⟨rfl,trivial⟩ rfl (d_op ?_)))))
    refine xT [(64,PV.ptr 3 0),(58,pI ((v0 + e2) + (1 + (tNext L (tStep L (tStep L (tStep L ap 6) 4) 3) 18))))] [0,2,3,4,5,6,12] [(3,.obj [pI v0,pI v1,pI v2,pI v3])] [(3,.obj [pI ((v0 + e2) + (1 + (tNext L (tStep L (tStep L (tStep L ap 6) 4) 3) 18))),pI v1,pI v2,pI v3])] [(6,.obj [pI 0,pI (v0 + e2),pI (f0 + (tNext L (tStep L (tStep L ap 6) 4) 3)),pI (1 + (tNext L (tStep L (tStep L (tStep L ap 6) 4) 3) 18))]),(0,.obj [pS 1 false encI L,pN (tStep L (tStep L (tStep L (tStep L ap 6) 4) 3) 18)]),(5,oB true 1 encI ([0,0,0,5] : List Int)),(4,oB true 1 encI ([3,0,3,1,2,3] : List Int)),(1,oB true 4 eWindow os),(2,.obj [pI f0,pI f1,pI f2,pI f3])] rfl rfl rfl rfl rfl (s_store_ptr tab_3 rfl rfl rfl rfl rfl (Nat.le_of_ble_eq_true rfl) ⟨rfl,rfl,rfl⟩) rfl rfl (d_op (xL [(6,PV.ptr 2 0),(53,pI 0)] (.range 14) [(2,.obj [pI f0,pI f1,pI f2,pI f3])] rfl rfl rfl rfl rfl (s_ia_arrN (q := 0) tab_145 rfl tab_3 rfl (by omega) rfl (by omega) ⟨rfl,rfl,rfl⟩) ⟨rfl,trivial⟩ rfl (d_op (xT [(65,PV.ptr 2 0),(63,pI ((f0 + (tNext L (tStep L (tStep L ap 6) 4) 3)) + (1 + (tNext L (tStep L (tStep L (tStep L ap 6) 4) 3) 18))))] (.range 15) [(2,.obj [pI f0,pI f1,pI f2,pI f3])] [(2,.obj [pI ((f0 + (tNext L (tStep L (tStep L ap 6) 4) 3)) + (1 + (tNext L (tStep L (tStep L (tStep L ap 6) 4) 3) 18))),pI f1,pI f2,pI f3])] [(3,.obj [pI ((v0 + e2) + (1 + (tNext L (tStep L (tStep L (tStep L ap 6) 4) 3) 18))),pI v1,pI v2,pI v3]),(6,.obj [pI 0,pI (v0 + e2),pI (f0 + (tNext L (tStep L (tStep L ap 6) 4) 3)),pI (1 + (tNext L (tStep L (tStep L (tStep L ap 6) 4) 3) 18))]),(0,.obj [pS 1 false encI L,pN (tStep L (tStep L (tStep L (tStep L ap 6) 4) 3) 18)]),(5,oB true 1 encI ([0,0,0,5] : List Int)),(4,oB true 1 encI ([3,0,3,1,2,3] : List Int)),(1,oB true 4 eWindow os)] rfl rfl rfl rfl rfl (s_store_ptr tab_3 rfl rfl rfl rfl rfl (Nat.le_of_ble_eq_true rfl) ⟨rfl,rfl,rfl⟩) rfl rfl (d_end ⟨by kernel_rfl, ?_⟩)))))
    refine q_then (w_R (qm hnt rfl rfl (qo hnt rfl (s_load_ptr tab_28 rfl rfl rfl (Nat.le_of_ble_eq_true rfl) ?_))))
    refine qo hnt rfl (s_mkM (f := eWindow) [(⟨0,v0 + e2,f0 + (tNext L (tStep L (tStep L ap 6) 4) 3),1 + (tNext L (tStep L (tStep L (tStep L ap 6) 4) 3) 18)⟩ : TWindow)] tab_22 rfl tab_28 ⟨rfl,by decide⟩ (by decide) rfl rfl rfl rfl ?_)
    refine qo hnt rfl (s_appR0 (f := eWindow) (l := os) (xs := [(⟨0,v0 + e2,f0 + (tNext L (tStep L (tStep L ap 6) 4) 3),1 + (tNext L (tStep L (tStep L (tStep L ap 6) 4) 3) 18)⟩ : TWindow)]) tab_22 rfl tab_28 ⟨rfl,by decide,by decide⟩ (srcM tab_22 rfl (hM_ref0 (f := eWindow) rfl rfl)) rfl rfl (by (simp; omega)) ?_)
    refine qa hnt rfl rfl (r_set [(0,PV.ptr 0 0),(5,PV.ref 8 0 none),(6,PV.ptr 2 0),(7,PV.ptr 3 0),(8,pI kk)] [(8,oB true 4 eWindow (os ++ [(⟨0,v0 + e2,f0 + (tNext L (tStep L (tStep L ap 6) 4) 3),1 + (tNext L (tStep L (tStep L (tStep L ap 6) 4) 3) 18)⟩ : TWindow)])),(7,oB true 4 eWindow [(⟨0,v0 + e2,f0 + (tNext L (tStep L (tStep L ap 6) 4) 3),1 + (tNext L (tStep L (tStep L (tStep L ap 6) 4) 3) 18)⟩ : TWindow)]),(2,.obj [pI ((f0 + (tNext L (tStep L (tStep L ap 6) 4) 3)) + (1 + (tNext L (tStep L (tStep L (tStep L ap 6) 4) 3) 18))),pI f1,pI f2,pI f3]),(3,.obj [pI ((v0 + e2) + (1 + (tNext L (tStep L (tStep L (tStep L ap 6) 4) 3) 18))),pI v1,pI v2,pI v3]),(6,.obj [pI 0,pI (v0 + e2),pI (f0 + (tNext L (tStep L (tStep L ap 6) 4) 3)),pI (1 + (tNext L (tStep L (tStep L (tStep L ap 6) 4) 3) 18))]),(0,.obj [pS 1 false encI L,pN (tStep L (tStep L (tStep L (tStep L ap 6) 4) 3) 18)]),(5,oB true 1 encI ([0,0,0,5] : List Int)),(4,oB true 1 encI ([3,0,3,1,2,3] : List Int))] 9 ⟨rfl,rfl,rfl,rfl,rfl,trivial⟩ rfl rfl (r_end (q_block (q_then (w_R ?_)))))
    refine qm hnt rfl rfl (qo hnt rfl (s_subi (r := kk - 1) rfl rfl rfl (by omega) ?_))
    refine qa hnt rfl rfl (r_end (q_then (⟨(tStep L (tStep L (tStep L (tStep L ap 6) 4) 3) 18),(os ++ [(⟨0,v0 + e2,f0 + (tNext L (tStep L (tStep L ap 6) 4) 3),1 + (tNext L (tStep L (tStep L (tStep L ap 6) 4) 3) 18)⟩ : TWindow)]),((f0 + (tNext L (tStep L (tStep L ap 6) 4) 3)) + (1 + (tNext L (tStep L (tStep L (tStep L ap 6) 4) 3) 18))),(f1),(f2),(f3),((v0 + e2) + (1 + (tNext L (tStep L (tStep L (tStep L ap 6) 4) 3) 18))),(v1),(v2),(v3),(kk - 1), ?_, ?_,⟨[(0,0),(1,8),(2,2),(3,3)],by rw [hk]; decide,⟨⟨_,rfl,rfl,rfl⟩,⟨_,rfl,rfl,rfl⟩,⟨_,rfl,rfl,rfl⟩,⟨_,rfl,rfl,rfl⟩,⟨_,rfl,rfl,rfl⟩,trivial⟩,⟨⟨_,_,rfl,rfl,rfl,rfl⟩,⟨_,_,rfl,rfl,rfl,rfl⟩,⟨_,_,rfl,rfl,rfl,rfl⟩,⟨_,_,rfl,rfl,rfl,rfl⟩,trivial⟩,by rw [hk]; decide⟩⟩)))
    ·refine ⟨by simp; omega,by omega, ?_⟩
     exact hW.step0 (by omega) (by omega) (by omega)
    · omega
   ·refine w_eq (s := 9) (y := pI 1) rfl (congrArg pI hs1) (W_drawn tabOk mixed hnt [[],[],[1],[1,2],[],[],[5],[4,5,6],[4,5,6,7],[1,2,3,4,5,6,7,8],[],[10],[10,11],[],[5,6,13],[5,6,10,11,12,13,14],[],[5,6,13,14,16],[5,6,13,14,16,17],(.range 19),[],(.range 21)] (by kernel_rfl) (d_op (x_run0 [(9,pI 1)] [] rfl rfl rfl rfl (s_move rfl ⟨rfl,rfl,rfl⟩) (d_op (x_run0 [(9,pI 1)] [] rfl rfl rfl rfl (s_move rfl ⟨rfl,rfl,rfl⟩) ?_)))))
    refine d_op (xL [(7,PV.ptr 3 0),(33,pI 1)] [1] [(3,.obj [pI v0,pI v1,pI v2,pI v3])] rfl rfl rfl rfl rfl (s_ia_arrN (q := 1) tab_145 rfl tab_3 rfl (by omega) rfl (by omega) ⟨rfl,rfl,rfl⟩) ⟨rfl,trivial⟩ rfl (d_op (xL [(34,PV.ptr 3 1)] [1,2] [(3,.obj [pI v0,pI v1,pI v2,pI v3])] rfl rfl rfl rfl rfl (s_load_ptr1 tab_3 rfl rfl rfl rfl rfl ⟨rfl,rfl,rfl⟩) ⟨rfl,trivial⟩ rfl (d_op (xT [] [] [] [(5,oB true 1 encI ([0,0,0,5] : List Int))] [(0,.obj [pS 1 false encI L,pN (tStep L ap 6)]),(4,oB true 1 encI ([3,0,3,1,2,3] : List Int)),(1,oB true 4 eWindow os),(2,.obj [pI f0,pI f1,pI f2,pI f3]),(3,.obj [pI v0,pI v1,pI v2,pI v3])] rfl rfl rfl rfl rfl (s_mkM (f := encI) ([0,0,0,5] : List Int) tab_24 rfl tab_3 ⟨rfl,by decide⟩ (by decide) rfl rfl rfl rfl ⟨rfl,rfl,rfl⟩) rfl rfl ?_)))))
    refine d_op (x_run0 [(0,PV.ptr 0 0)] [] rfl rfl rfl rfl (s_move rfl ⟨rfl,rfl,rfl⟩) (d_op (xT [(37,PV.ptr 0 0)] [5] [(0,.obj [pS 1 false encI L,pN (tStep L ap 6)])] [(0,.obj [pS 1 false encI L,pN (tStep L (tStep L ap 6) 4)])] [(5,oB true 1 encI ([0,0,0,5] : List Int)),(4,oB true 1 encI ([3,0,3,1,2,3] : List Int)),(1,oB true 4 eWindow os),(2,.obj [pI f0,pI f1,pI f2,pI f3]),(3,.obj [pI v0,pI v1,pI v2,pI v3])] rfl rfl rfl rfl rfl (s_callX (r2 := pI (tNext L (tStep L ap 6) 4)) (nx1 := 6) (H2 := [(0,.obj [pS 1 false encI L,pN (tStep L ap 6)])]) (H3 := [(0,.obj [pS 1 false encI L,pN (tStep L (tStep L ap 6) 4)])]) [0] [.obj [pS 1 false encI L,pN (tStep L ap 6)]] rfl rfl rfl (handed_of (by decide) ⟨rfl,trivial⟩) rfl rfl rfl rfl rfl rfl (w_burgagekeep_Tape_Next L false (tStep L ap 6) 4 (by omega) (by omega)) rfl (dist_of rfl) rfl rfl rfl rfl ⟨rfl,rfl,rfl⟩) rfl rfl ?_)))
    have hb38 := tNext_lt L (tStep L ap 6) (n := 4) (by decide)
    refine d_op (xL [(36,PV.ref 5 0 none),(38,pI (tNext L (tStep L ap 6) 4))] [4,5,6] [(5,oB true 1 encI ([0,0,0,5] : List Int))] rfl rfl rfl rfl rfl (s_iaR0 (q := Int.toNat (tNext L (tStep L ap 6) 4)) (f := encI) (l := ([0,0,0,5] : List Int)) tab_24 rfl tab_3 rfl rfl (by omega) rfl rfl (by simp; omega) ⟨rfl,rfl,rfl⟩) ⟨rfl,trivial⟩ rfl (d_op ?_))
    obtain ⟨e3,he3⟩ := get_of_lt ([0,0,0,5] : List Int) (i := Int.toNat (tNext L (tStep L ap 6) 4)) (by simp; omega)
    refine xL [(39,PV.ep 5 (Int.toNat (tNext L (tStep L ap 6) 4)) 0)] [4,5,6,7] [(5,oB true 1 encI ([0,0,0,5] : List Int))] rfl rfl rfl rfl rfl (s_ldM (b := e3) (f := encI) tab_3 rfl rfl rfl rfl he3 rfl ⟨rfl,rfl,rfl⟩) ⟨rfl,trivial⟩ rfl ?_
    have hd4 := List.mem_of_getElem? he3
    simp only [List.mem_cons,List.not_mem_nil,or_false] at hd4
    refine d_op (x_run0 [(35,pI v1),(40,pI e3)] [1,2,3,4,5,6,7,8] rfl rfl rfl rfl (s_addi (r := v1 + e3) rfl rfl rfl (by omega) ⟨rfl,rfl,rfl⟩) (d_op (x_run0 [(9,pI 1)] [] rfl rfl rfl rfl (s_move rfl ⟨rfl,rfl,rfl⟩) (d_op (xL [(6,PV.ptr 2 0),(42,pI 1)] [10] [(2,.obj [pI f0,pI f1,pI f2,pI f3])] rfl rfl rfl rfl rfl (s_ia_arrN (q := 1) tab_145 rfl tab_3 rfl (by omega) rfl (by omega) ⟨rfl,rfl,rfl⟩) ⟨rfl,trivial⟩ rfl ?_)))))
    refine d_op (xL [(43,PV.ptr 2 1)] [10,11] [(2,.obj [pI f0,pI f1,pI f2,pI f3])] rfl rfl rfl rfl rfl (s_load_ptr1 tab_3 rfl rfl rfl rfl rfl ⟨rfl,rfl,rfl⟩) ⟨rfl,trivial⟩ rfl (d_op (x_run0 [(0,PV.ptr 0 0)] [] rfl rfl rfl rfl (s_move rfl ⟨rfl,rfl,rfl⟩) (d_op (xT [(45,PV.ptr 0 0)] [5,6,13] [(0,.obj [pS 1 false encI L,pN (tStep L (tStep L ap 6) 4)])] [(0,.obj [pS 1 false encI L,pN (tStep L (tStep L (tStep L ap 6) 4) 3)])] [(5,oB true 1 encI ([0,0,0,5] : List Int)),(4,oB true 1 encI ([3,0,3,1,2,3] : List Int)),(1,oB true 4 eWindow os),(2,.obj [pI f0,pI f1,pI f2,pI f3]),(3,.obj [pI v0,pI v1,pI v2,pI v3])] rfl rfl rfl rfl rfl (s_callX (r2 := pI (tNext L (tStep L (tStep L ap 6) 4) 3)) (nx1 := 6) (H2 := [(0,.obj [pS 1 false encI L,pN (tStep L (tStep L ap 6) 4)])]) (H3 := [(0,.obj [pS 1 false encI L,pN (tStep L (tStep L (tStep L ap 6) 4) 3)])]) [0] [.obj [pS 1 false encI L,pN (tStep L (tStep L ap 6) 4)]] rfl rfl rfl (handed_of (by decide) ⟨rfl,trivial⟩) rfl rfl rfl rfl rfl rfl (w_burgagekeep_Tape_Next L false (tStep L (tStep L ap 6) 4) 3 (by omega) (by omega)) rfl (dist_of rfl) rfl rfl rfl rfl ⟨rfl,rfl,rfl⟩) rfl rfl ?_)))))
    have hb46 := tNext_lt L (tStep L (tStep L ap 6) 4) (n := 3) (by decide)
    refine d_op (x_run0 [(44,pI f1),(46,pI (tNext L (tStep L (tStep L ap 6) 4) 3))] [5,6,10,11,12,13,14] rfl rfl rfl rfl (s_addi (r := f1 + (tNext L (tStep L (tStep L ap 6) 4) 3)) rfl rfl rfl (by omega) ⟨rfl,rfl,rfl⟩) (d_op (x_run0 [(0,PV.ptr 0 0)] [] rfl rfl rfl rfl (s_move rfl ⟨rfl,rfl,rfl⟩) (d_op (xT [(48,PV.ptr 0 0)] [5,6,13,14,16] [(0,.obj [pS 1 false encI L,pN (tStep L (tStep L (tStep L ap 6) 4) 3)])] [(0,.obj [pS 1 false encI L,pN (tStep L (tStep L (tStep L (tStep L ap 6) 4) 3) 18)])] [(5,oB true 1 encI ([0,0,0,5] : List Int)),(4,oB true 1 encI ([3,0,3,1,2,3] : List Int)),(1,oB true 4 eWindow os),(2,.obj [pI f0,pI f1,pI f2,pI f3]),(3,.obj [pI v0,pI v1,pI v2,pI v3])] rfl rfl rfl rfl rfl (s_callX (r2 := pI (tNext L (tStep L (tStep L (tStep L ap 6) 4) 3) 18)) (nx1 := 6) (H2 := [(0,.obj [pS 1 false encI L,pN (tStep L (tStep L (tStep L ap 6) 4) 3)])]) (H3 := [(0,.obj [pS 1 false encI L,pN (tStep L (tStep L (tStep L (tStep L ap 6) 4) 3) 18)])]) [0] [.obj [pS 1 false encI L,pN (tStep L (tStep L (tStep L ap 6) 4) 3)]] rfl rfl rfl (handed_of (by decide) ⟨rfl,trivial⟩) rfl rfl rfl rfl rfl rfl (w_burgagekeep_Tape_Next L false (tStep L (tStep L (tStep L ap 6) 4) 3) 18 (by omega) (by omega)) rfl (dist_of rfl) rfl rfl rfl rfl ⟨rfl,rfl,rfl⟩) rfl rfl ?_)))))
    have hb49 := tNext_lt L (tStep L (tStep L (tStep L ap 6) 4) 3) (n := 18) (by decide)
    refine d_op (x_run0 [(49,pI (tNext L (tStep L (tStep L (tStep L ap 6) 4) 3) 18))] [5,6,13,14,16,17] rfl rfl rfl rfl (s_addi (r := 1 + (tNext L (tStep L (tStep L (tStep L ap 6) 4) 3) 18)) rfl rfl rfl (by omega) ⟨rfl,rfl,rfl⟩) (d_op (x_run0 [(32,pI 1),(41,pI (v1 + e3)),(47,pI (f1 + (tNext L (tStep L (tStep L ap 6) 4) 3))),(50,pI (1 + (tNext L (tStep L (tStep L (tStep L ap 6) 4) 3) 18)))] (.range 19) rfl rfl rfl rfl (s_build tab_28 rfl rfl (b_cons rfl tab_3 rfl rfl rfl (Nat.le_of_ble_eq_true rfl) (b_cons rfl tab_3 rfl rfl rfl (Nat.le_of_ble_eq_true rfl) (b_cons rfl tab_3 rfl rfl rfl (Nat.le_of_ble_eq_true rfl) (b_cons rfl tab_3 rfl rfl rfl (Nat.le_of_ble_eq_true rfl) (b_nilN (cs' := [pI 1,pI (v1 + e3),pI (f1 + (tNext L (tStep L (tStep L ap 6) 4) 3)),pI (1 + (tNext L (tStep L (tStep L (tStep L ap 6) 4) 3) 18))]) rfl ⟨rfl,rfl,rfl⟩)))))) (d_op (xT [] [] [] [(6,.obj [pI 0,pI 0,pI 0,pI 0])] [(0,.obj [pS 1 false encI L,pN (tStep L (tStep L (tStep L (tStep L ap 6) 4) 3) 18)]),(5,oB true 1 encI ([0,0,0,5] : List Int)),(4,oB true 1 encI ([3,0,3,1,2,3] : List Int)),(1,oB true 4 eWindow os),(2,.obj [pI f0,pI f1,pI f2,pI f3]),(3,.obj [pI v0,pI v1,pI v2,pI v3])] rfl rfl rfl rfl rfl (s_alloc tab_28 ⟨rfl,rfl,rfl⟩) rfl rfl ?_)))))
    refine d_op (xT [(10,PV.ptr 6 0),(51,PV.f (.agg [encI 1,encI (v1 + e3),encI (f1 + (tNext L (tStep L (tStep L ap 6) 4) 3)),encI (1 + (tNext L (tStep L (tStep L (tStep L ap 6) 4) 3) 18))]))] (.range 21) [(6,.obj [pI 0,pI 0,pI 0,pI 0])] [(6,.obj [pI 1,pI (v1 + e3),pI (f1 + (tNext L (tStep L (tStep L ap 6) 4) 3)),pI (1 + (tNext L (tStep L (tStep L (tStep L ap 6) 4) 3) 18))])] [(0,.obj [pS 1 false encI L,pN (tStep L (tStep L (tStep L (tStep L ap 6) 4) 3) 18)]),(5,oB true 1 encI ([0,0,0,5] : List Int)),(4,oB true 1 encI ([3,0,3,1,2,3] : List Int)),(1,oB true 4 eWindow os),(2,.obj [pI f0,pI f1,pI f2,pI f3]),(3,.obj [pI v0,pI v1,pI v2,pI v3])] rfl rfl rfl rfl rfl (s_store_ptr tab_28 rfl rfl rfl rfl rfl (Nat.le_of_ble_eq_true rfl) ⟨rfl,rfl,rfl⟩) rfl rfl (d_end ⟨by kernel_rfl, ?_⟩))
    refine q_then (w_seq (W_drawn tabOk mixed hnt [[],[],[],[2],[],[4],[2,3,4,5],[],[7],[],[9],[7,8,9,10],[0,2,3,4,5,6],[0,2,3,4,5,6,12],(.range 14),(.range 15)] (by kernel_rfl) (d_op (x_run0 [(9,pI 1)] [] rfl rfl rfl rfl (s_move rfl ⟨rfl,rfl,rfl⟩) (d_op ?_)))))
    refine x_run0 [(9,pI 1)] [] rfl rfl rfl rfl (s_move rfl ⟨rfl,rfl,rfl⟩) (d_op (x_run0 [(10,PV.ptr 6 0)] [] rfl rfl rfl rfl (s_fa_ptr tab_28 rfl rfl tab_3 (by decide) rfl ⟨rfl,rfl,rfl⟩) (d_op (xL [(54,PV.ptr 6 1)] [2] [(6,.obj [pI 1,pI (v1 + e3),pI (f1 + (tNext L (tStep L (tStep L ap 6) 4) 3)),pI (1 + (tNext L (tStep L (tStep L (tStep L ap 6) 4) 3) 18))])] rfl rfl rfl rfl rfl (s_load_ptr1 tab_3 rfl rfl rfl rfl rfl ⟨rfl,rfl,rfl⟩) ⟨rfl,trivial⟩ rfl (d_op ?_)))))
    refine x_run0 [(10,PV.ptr 6 0)] [] rfl rfl rfl rfl (s_fa_ptr tab_28 rfl rfl tab_3 (by decide) rfl ⟨rfl,rfl,rfl⟩) (d_op (xL [(56,PV.ptr 6 3)] [4] [(6,.obj [pI 1,pI (v1 + e3),pI (f1 + (tNext L (tStep L (tStep L ap 6) 4) 3)),pI (1 + (tNext L (tStep L (tStep L (tStep L ap 6) 4) 3) 18))])] rfl rfl rfl rfl rfl (s_load_ptr1 tab_3 rfl rfl rfl rfl rfl ⟨rfl,rfl,rfl⟩) ⟨rfl,trivial⟩ rfl (d_op (x_run0 [(55,pI (v1 + e3)),(57,pI (1 + (tNext L (tStep L (tStep L (tStep L ap 6) 4) 3) 18)))] [2,3,4,5] rfl rfl rfl rfl (s_addi (r := (v1 + e3) + (1 + (tNext L (tStep L (tStep L (tStep L ap 6) 4) 3) 18))) rfl rfl rfl (by omega) ⟨rfl,rfl,rfl⟩) (d_op ?_)))))
    refine x_run0 [(10,PV.ptr 6 0)] [] rfl rfl rfl rfl (s_fa_ptr tab_28 rfl rfl tab_3 (by decide) rfl ⟨rfl,rfl,rfl⟩) (d_op (xL [(59,PV.ptr 6 2)] [7] [(6,.obj [pI 1,pI (v1 + e3),pI (f1 + (tNext L (tStep L (tStep L ap 6) 4) 3)),pI (1 + (tNext L (tStep L (tStep L (tStep L ap 6) 4) 3) 18))])] rfl rfl rfl rfl rfl (s_load_ptr1 tab_3 rfl rfl rfl rfl rfl ⟨rfl,rfl,rfl⟩) ⟨rfl,trivial⟩ rfl (d_op (x_run0 [(10,PV.ptr 6 0)] [] rfl rfl rfl rfl (s_fa_ptr tab_28 rfl rfl tab_3 (by decide) rfl ⟨rfl,rfl,rfl⟩) (d_op ?_)))))
    refine xL [(61,PV.ptr 6 3)] [9] [(6,.obj [pI 1,pI (v1 + e3),pI (f1 + (tNext L (tStep L (tStep L ap 6) 4) 3)),pI (1 + (tNext L (tStep L (tStep L (tStep L ap 6) 4) 3) 18))])] rfl rfl rfl rfl rfl (s_load_ptr1 tab_3 rfl rfl rfl rfl rfl ⟨rfl,rfl,rfl⟩) ⟨rfl,trivial⟩ rfl (d_op (x_run0 [(60,pI (f1 + (tNext L (tStep L (tStep L ap 6) 4) 3))),(62,pI (1 + (tNext L (tStep L (tStep L (tStep L ap 6) 4) 3) 18)))] [7,8,9,10] rfl rfl rfl rfl (s_addi (r := (f1 + (tNext L (tStep L (tStep L ap 6) 4) 3)) + (1 + (tNext L (tStep L (tStep L (tStep L ap 6) 4) 3) 18))) rfl rfl rfl (by omega) ⟨rfl,rfl,rfl⟩) (d_op (xL [(7,PV.ptr 3 0),(52,pI 1)] [0,2,3,4,5,6] [(3,.obj [pI v0,pI v1,pI v2,pI v3])] rfl rfl rfl rfl rfl (s_ia_arrN (q := 1) tab_145 rfl tab_3 rfl (by omega) rfl (by omega) ⟨rfl,rfl,rfl⟩) ⟨rfl,trivial⟩ rfl (d_op ?_)))))
    refine xT [(64,PV.ptr 3 1),(58,pI ((v1 + e3) + (1 + (tNext L (tStep L (tStep L (tStep L ap 6) 4) 3) 18))))] [0,2,3,4,5,6,12] [(3,.obj [pI v0,pI v1,pI v2,pI v3])] [(3,.obj [pI v0,pI ((v1 + e3) + (1 + (tNext L (tStep L (tStep L (tStep L ap 6) 4) 3) 18))),pI v2,pI v3])] [(6,.obj [pI 1,pI (v1 + e3),pI (f1 + (tNext L (tStep L (tStep L ap 6) 4) 3)),pI (1 + (tNext L (tStep L (tStep L (tStep L ap 6) 4) 3) 18))]),(0,.obj [pS 1 false encI L,pN (tStep L (tStep L (tStep L (tStep L ap 6) 4) 3) 18)]),(5,oB true 1 encI ([0,0,0,5] : List Int)),(4,oB true 1 encI ([3,0,3,1,2,3] : List Int)),(1,oB true 4 eWindow os),(2,.obj [pI f0,pI f1,pI f2,pI f3])] rfl rfl rfl rfl rfl (s_store_ptr tab_3 rfl rfl rfl rfl rfl (Nat.le_of_ble_eq_true rfl) ⟨rfl,rfl,rfl⟩) rfl rfl (d_op (xL [(6,PV.ptr 2 0),(53,pI 1)] (.range 14) [(2,.obj [pI f0,pI f1,pI f2,pI f3])] rfl rfl rfl rfl rfl (s_ia_arrN (q := 1) tab_145 rfl tab_3 rfl (by omega) rfl (by omega) ⟨rfl,rfl,rfl⟩) ⟨rfl,trivial⟩ rfl (d_op (xT [(65,PV.ptr 2 1),(63,pI ((f1 + (tNext L (tStep L (tStep L ap 6) 4) 3)) + (1 + (tNext L (tStep L (tStep L (tStep L ap 6) 4) 3) 18))))] (.range 15) [(2,.obj [pI f0,pI f1,pI f2,pI f3])] [(2,.obj [pI f0,pI ((f1 + (tNext L (tStep L (tStep L ap 6) 4) 3)) + (1 + (tNext L (tStep L (tStep L (tStep L ap 6) 4) 3) 18))),pI f2,pI f3])] [(3,.obj [pI v0,pI ((v1 + e3) + (1 + (tNext L (tStep L (tStep L (tStep L ap 6) 4) 3) 18))),pI v2,pI v3]),(6,.obj [pI 1,pI (v1 + e3),pI (f1 + (tNext L (tStep L (tStep L ap 6) 4) 3)),pI (1 + (tNext L (tStep L (tStep L (tStep L ap 6) 4) 3) 18))]),(0,.obj [pS 1 false encI L,pN (tStep L (tStep L (tStep L (tStep L ap 6) 4) 3) 18)]),(5,oB true 1 encI ([0,0,0,5] : List Int)),(4,oB true 1 encI ([3,0,3,1,2,3] : List Int)),(1,oB true 4 eWindow os)] rfl rfl rfl rfl rfl (s_store_ptr tab_3 rfl rfl rfl rfl rfl (Nat.le_of_ble_eq_true rfl) ⟨rfl,rfl,rfl⟩) rfl rfl (d_end ⟨by kernel_rfl, ?_⟩)))))
    refine q_then (w_R (qm hnt rfl rfl (qo hnt rfl (s_load_ptr tab_28 rfl rfl rfl (Nat.le_of_ble_eq_true rfl) ?_))))
    refine qo hnt rfl (s_mkM (f := eWindow) [(⟨1,v1 + e3,f1 + (tNext L (tStep L (tStep L ap 6) 4) 3),1 + (tNext L (tStep L (tStep L (tStep L ap 6) 4) 3) 18)⟩ : TWindow)] tab_22 rfl tab_28 ⟨rfl,by decide⟩ (by decide) rfl rfl rfl rfl ?_)
    refine qo hnt rfl (s_appR0 (f := eWindow) (l := os) (xs := [(⟨1,v1 + e3,f1 + (tNext L (tStep L (tStep L ap 6) 4) 3),1 + (tNext L (tStep L (tStep L (tStep L ap 6) 4) 3) 18)⟩ : TWindow)]) tab_22 rfl tab_28 ⟨rfl,by decide,by decide⟩ (srcM tab_22 rfl (hM_ref0 (f := eWindow) rfl rfl)) rfl rfl (by (simp; omega)) ?_)
    refine qa hnt rfl rfl (r_set [(0,PV.ptr 0 0),(5,PV.ref 8 0 none),(6,PV.ptr 2 0),(7,PV.ptr 3 0),(8,pI kk)] [(8,oB true 4 eWindow (os ++ [(⟨1,v1 + e3,f1 + (tNext L (tStep L (tStep L ap 6) 4) 3),1 + (tNext L (tStep L (tStep L (tStep L ap 6) 4) 3) 18)⟩ : TWindow)])),(7,oB true 4 eWindow [(⟨1,v1 + e3,f1 + (tNext L (tStep L (tStep L ap 6) 4) 3),1 + (tNext L (tStep L (tStep L (tStep L ap 6) 4) 3) 18)⟩ : TWindow)]),(2,.obj [pI f0,pI ((f1 + (tNext L (tStep L (tStep L ap 6) 4) 3)) + (1 + (tNext L (tStep L (tStep L (tStep L ap 6) 4) 3) 18))),pI f2,pI f3]),(3,.obj [pI v0,pI ((v1 + e3) + (1 + (tNext L (tStep L (tStep L (tStep L ap 6) 4) 3) 18))),pI v2,pI v3]),(6,.obj [pI 1,pI (v1 + e3),pI (f1 + (tNext L (tStep L (tStep L ap 6) 4) 3)),pI (1 + (tNext L (tStep L (tStep L (tStep L ap 6) 4) 3) 18))]),(0,.obj [pS 1 false encI L,pN (tStep L (tStep L (tStep L (tStep L ap 6) 4) 3) 18)]),(5,oB true 1 encI ([0,0,0,5] : List Int)),(4,oB true 1 encI ([3,0,3,1,2,3] : List Int))] 9 ⟨rfl,rfl,rfl,rfl,rfl,trivial⟩ rfl rfl (r_end (q_block (q_then (w_R ?_)))))
    refine qm hnt rfl rfl (qo hnt rfl (s_subi (r := kk - 1) rfl rfl rfl (by omega) ?_))
    refine qa hnt rfl rfl (r_end (q_then (⟨(tStep L (tStep L (tStep L (tStep L ap 6) 4) 3) 18),(os ++ [(⟨1,v1 + e3,f1 + (tNext L (tStep L (tStep L ap 6) 4) 3),1 + (tNext L (tStep L (tStep L (tStep L ap 6) 4) 3) 18)⟩ : TWindow)]),(f0),((f1 + (tNext L (tStep L (tStep L ap 6) 4) 3)) + (1 + (tNext L (tStep L (tStep L (tStep L ap 6) 4) 3) 18))),(f2),(f3),(v0),((v1 + e3) + (1 + (tNext L (tStep L (tStep L (tStep L ap 6) 4) 3) 18))),(v2),(v3),(kk - 1), ?_, ?_,⟨[(0,0),(1,8),(2,2),(3,3)],by rw [hk]; decide,⟨⟨_,rfl,rfl,rfl⟩,⟨_,rfl,rfl,rfl⟩,⟨_,rfl,rfl,rfl⟩,⟨_,rfl,rfl,rfl⟩,⟨_,rfl,rfl,rfl⟩,trivial⟩,⟨⟨_,_,rfl,rfl,rfl,rfl⟩,⟨_,_,rfl,rfl,rfl,rfl⟩,⟨_,_,rfl,rfl,rfl,rfl⟩,⟨_,_,rfl,rfl,rfl,rfl⟩,trivial⟩,by rw [hk]; decide⟩⟩)))
    ·refine ⟨by simp; omega,by omega, ?_⟩
     exact hW.step1 (by omega) (by omega) (by omega)
    · omega
   ·refine w_eq (s := 9) (y := pI 2) rfl (congrArg pI hs1) (W_drawn tabOk mixed hnt [[],[],[1],[1,2],[],[],[5],[4,5,6],[4,5,6,7],[1,2,3,4,5,6,7,8],[],[10],[10,11],[],[5,6,13],[5,6,10,11,12,13,14],[],[5,6,13,14,16],[5,6,13,14,16,17],(.range 19),[],(.range 21)] (by kernel_rfl) (d_op (x_run0 [(9,pI 2)] [] rfl rfl rfl rfl (s_move rfl ⟨rfl,rfl,rfl⟩) (d_op (x_run0 [(9,pI 2)] [] rfl rfl rfl rfl (s_move rfl ⟨rfl,rfl,rfl⟩) ?_)))))
    refine d_op (xL [(7,PV.ptr 3 0),(33,pI 2)] [1] [(3,.obj [pI v0,pI v1,pI v2,pI v3])] rfl rfl rfl rfl rfl (s_ia_arrN (q := 2) tab_145 rfl tab_3 rfl (by omega) rfl (by omega) ⟨rfl,rfl,rfl⟩) ⟨rfl,trivial⟩ rfl (d_op (xL [(34,PV.ptr 3 2)] [1,2] [(3,.obj [pI v0,pI v1,pI v2,pI v3])] rfl rfl rfl rfl rfl (s_load_ptr1 tab_3 rfl rfl rfl rfl rfl ⟨rfl,rfl,rfl⟩) ⟨rfl,trivial⟩ rfl (d_op (xT [] [] [] [(5,oB true 1 encI ([0,0,0,5] : List Int))] [(0,.obj [pS 1 false encI L,pN (tStep L ap 6)]),(4,oB true 1 encI ([3,0,3,1,2,3] : List Int)),(1,oB true 4 eWindow os),(2,.obj [pI f0,pI f1,pI f2,pI f3]),(3,.obj [pI v0,pI v1,pI v2,pI v3])] rfl rfl rfl rfl rfl (s_mkM (f := encI) ([0,0,0,5] : List Int) tab_24 rfl tab_3 ⟨rfl,by decide⟩ (by decide) rfl rfl rfl rfl ⟨rfl,rfl,rfl⟩) rfl rfl ?_)))))
    refine d_op (x_run0 [(0,PV.ptr 0 0)] [] rfl rfl rfl rfl (s_move rfl ⟨rfl,rfl,rfl⟩) (d_op (xT [(37,PV.ptr 0 0)] [5] [(0,.obj [pS 1 false encI L,pN (tStep L ap 6)])] [(0,.obj [pS 1 false encI L,pN (tStep L (tStep L ap 6) 4)])] [(5,oB true 1 encI ([0,0,0,5] : List Int)),(4,oB true 1 encI ([3,0,3,1,2,3] : List Int)),(1,oB true 4 eWindow os),(2,.obj [pI f0,pI f1,pI f2,pI f3]),(3,.obj [pI v0,pI v1,pI v2,pI v3])] rfl rfl rfl rfl rfl (s_callX (r2 := pI (tNext L (tStep L ap 6) 4)) (nx1 := 6) (H2 := [(0,.obj [pS 1 false encI L,pN (tStep L ap 6)])]) (H3 := [(0,.obj [pS 1 false encI L,pN (tStep L (tStep L ap 6) 4)])]) [0] [.obj [pS 1 false encI L,pN (tStep L ap 6)]] rfl rfl rfl (handed_of (by decide) ⟨rfl,trivial⟩) rfl rfl rfl rfl rfl rfl (w_burgagekeep_Tape_Next L false (tStep L ap 6) 4 (by omega) (by omega)) rfl (dist_of rfl) rfl rfl rfl rfl ⟨rfl,rfl,rfl⟩) rfl rfl ?_)))
    have hb38 := tNext_lt L (tStep L ap 6) (n := 4) (by decide)
    refine d_op (xL [(36,PV.ref 5 0 none),(38,pI (tNext L (tStep L ap 6) 4))] [4,5,6] [(5,oB true 1 encI ([0,0,0,5] : List Int))] rfl rfl rfl rfl rfl (s_iaR0 (q := Int.toNat (tNext L (tStep L ap 6) 4)) (f := encI) (l := ([0,0,0,5] : List Int)) tab_24 rfl tab_3 rfl rfl (by omega) rfl rfl (by simp; omega) ⟨rfl,rfl,rfl⟩) ⟨rfl,trivial⟩ rfl (d_op ?_))
    obtain ⟨e4,he4⟩ := get_of_lt ([0,0,0,5] : List Int) (i := Int.toNat (tNext L (tStep L ap 6) 4)) (by simp; omega)
    refine xL [(39,PV.ep 5 (Int.toNat (tNext L (tStep L ap 6) 4)) 0)] [4,5,6,7] [(5,oB true 1 encI ([0,0,0,5] : List Int))] rfl rfl rfl rfl rfl (s_ldM (b := e4) (f := encI) tab_3 rfl rfl rfl rfl he4 rfl ⟨rfl,rfl,rfl⟩) ⟨rfl,trivial⟩ rfl ?_
    have hd4 := List.mem_of_getElem? he4
    simp only [List.mem_cons,List.not_mem_nil,or_false] at hd4
    refine d_op (x_run0 [(35,pI v2),(40,pI e4)] [1,2,3,4,5,6,7,8] rfl rfl rfl rfl (s_addi (r := v2 + e4) rfl rfl rfl (by omega) ⟨rfl,rfl,rfl⟩) (d_op (x_run0 [(9,pI 2)] [] rfl rfl rfl rfl (s_move rfl ⟨rfl,rfl,rfl⟩) (d_op (xL [(6,PV.ptr 2 0),(42,pI 2)] [10] [(2,.obj [pI f0,pI f1,pI f2,pI f3])] rfl rfl rfl rfl rfl (s_ia_arrN (q := 2) tab_145 rfl tab_3 rfl (by omega) rfl (by omega) ⟨rfl,rfl,rfl⟩) ⟨rfl,trivial⟩ rfl ?_)))))
    refine d_op (xL [(43,PV.ptr 2 2)] [10,11] [(2,.obj [pI f0,pI f1,pI f2,pI f3])] rfl rfl rfl rfl rfl (s_load_ptr1 tab_3 rfl rfl rfl rfl rfl ⟨rfl,rfl,rfl⟩) ⟨rfl,trivial⟩ rfl (d_op (x_run0 [(0,PV.ptr 0 0)] [] rfl rfl rfl rfl (s_move rfl ⟨rfl,rfl,rfl⟩) (d_op (xT [(45,PV.ptr 0 0)] [5,6,13] [(0,.obj [pS 1 false encI L,pN (tStep L (tStep L ap 6) 4)])] [(0,.obj [pS 1 false encI L,pN (tStep L (tStep L (tStep L ap 6) 4) 3)])] [(5,oB true 1 encI ([0,0,0,5] : List Int)),(4,oB true 1 encI ([3,0,3,1,2,3] : List Int)),(1,oB true 4 eWindow os),(2,.obj [pI f0,pI f1,pI f2,pI f3]),(3,.obj [pI v0,pI v1,pI v2,pI v3])] rfl rfl rfl rfl rfl (s_callX (r2 := pI (tNext L (tStep L (tStep L ap 6) 4) 3)) (nx1 := 6) (H2 := [(0,.obj [pS 1 false encI L,pN (tStep L (tStep L ap 6) 4)])]) (H3 := [(0,.obj [pS 1 false encI L,pN (tStep L (tStep L (tStep L ap 6) 4) 3)])]) [0] [.obj [pS 1 false encI L,pN (tStep L (tStep L ap 6) 4)]] rfl rfl rfl (handed_of (by decide) ⟨rfl,trivial⟩) rfl rfl rfl rfl rfl rfl (w_burgagekeep_Tape_Next L false (tStep L (tStep L ap 6) 4) 3 (by omega) (by omega)) rfl (dist_of rfl) rfl rfl rfl rfl ⟨rfl,rfl,rfl⟩) rfl rfl ?_)))))
    have hb46 := tNext_lt L (tStep L (tStep L ap 6) 4) (n := 3) (by decide)
    refine d_op (x_run0 [(44,pI f2),(46,pI (tNext L (tStep L (tStep L ap 6) 4) 3))] [5,6,10,11,12,13,14] rfl rfl rfl rfl (s_addi (r := f2 + (tNext L (tStep L (tStep L ap 6) 4) 3)) rfl rfl rfl (by omega) ⟨rfl,rfl,rfl⟩) (d_op (x_run0 [(0,PV.ptr 0 0)] [] rfl rfl rfl rfl (s_move rfl ⟨rfl,rfl,rfl⟩) (d_op (xT [(48,PV.ptr 0 0)] [5,6,13,14,16] [(0,.obj [pS 1 false encI L,pN (tStep L (tStep L (tStep L ap 6) 4) 3)])] [(0,.obj [pS 1 false encI L,pN (tStep L (tStep L (tStep L (tStep L ap 6) 4) 3) 18)])] [(5,oB true 1 encI ([0,0,0,5] : List Int)),(4,oB true 1 encI ([3,0,3,1,2,3] : List Int)),(1,oB true 4 eWindow os),(2,.obj [pI f0,pI f1,pI f2,pI f3]),(3,.obj [pI v0,pI v1,pI v2,pI v3])] rfl rfl rfl rfl rfl (s_callX (r2 := pI (tNext L (tStep L (tStep L (tStep L ap 6) 4) 3) 18)) (nx1 := 6) (H2 := [(0,.obj [pS 1 false encI L,pN (tStep L (tStep L (tStep L ap 6) 4) 3)])]) (H3 := [(0,.obj [pS 1 false encI L,pN (tStep L (tStep L (tStep L (tStep L ap 6) 4) 3) 18)])]) [0] [.obj [pS 1 false encI L,pN (tStep L (tStep L (tStep L ap 6) 4) 3)]] rfl rfl rfl (handed_of (by decide) ⟨rfl,trivial⟩) rfl rfl rfl rfl rfl rfl (w_burgagekeep_Tape_Next L false (tStep L (tStep L (tStep L ap 6) 4) 3) 18 (by omega) (by omega)) rfl (dist_of rfl) rfl rfl rfl rfl ⟨rfl,rfl,rfl⟩) rfl rfl ?_)))))
    have hb49 := tNext_lt L (tStep L (tStep L (tStep L ap 6) 4) 3) (n := 18) (by decide)
    refine d_op (x_run0 [(49,pI (tNext L (tStep L (tStep L (tStep L ap 6) 4) 3) 18))] [5,6,13,14,16,17] rfl rfl rfl rfl (s_addi (r := 1 + (tNext L (tStep L (tStep L (tStep L ap 6) 4) 3) 18)) rfl rfl rfl (by omega) ⟨rfl,rfl,rfl⟩) (d_op (x_run0 [(32,pI 2),(41,pI (v2 + e4)),(47,pI (f2 + (tNext L (tStep L (tStep L ap 6) 4) 3))),(50,pI (1 + (tNext L (tStep L (tStep L (tStep L ap 6) 4) 3) 18)))] (.range 19) rfl rfl rfl rfl (s_build tab_28 rfl rfl (b_cons rfl tab_3 rfl rfl rfl (Nat.le_of_ble_eq_true rfl) (b_cons rfl tab_3 rfl rfl rfl (Nat.le_of_ble_eq_true rfl) (b_cons rfl tab_3 rfl rfl rfl (Nat.le_of_ble_eq_true rfl) (b_cons rfl tab_3 rfl rfl rfl (Nat.le_of_ble_eq_true rfl) (b_nilN (cs' := [pI 2,pI (v2 + e4),pI (f2 + (tNext L (tStep L (tStep L ap 6) 4) 3)),pI (1 + (tNext L (tStep L (tStep L (tStep L ap 6) 4) 3) 18))]) rfl ⟨rfl,rfl,rfl⟩)))))) (d_op (xT [] [] [] [(6,.obj [pI 0,pI 0,pI 0,pI 0])] [(0,.obj [pS 1 false encI L,pN (tStep L (tStep L (tStep L (tStep L ap 6) 4) 3) 18)]),(5,oB true 1 encI ([0,0,0,5] : List Int)),(4,oB true 1 encI ([3,0,3,1,2,3] : List Int)),(1,oB true 4 eWindow os),(2,.obj [pI f0,pI f1,pI f2,pI f3]),(3,.obj [pI v0,pI v1,pI v2,pI v3])] rfl rfl rfl rfl rfl (s_alloc tab_28 ⟨rfl,rfl,rfl⟩) rfl rfl ?_)))))
    refine d_op (xT [(10,PV.ptr 6 0),(51,PV.f (.agg [encI 2,encI (v2 + e4),encI (f2 + (tNext L (tStep L (tStep L ap 6) 4) 3)),encI (1 + (tNext L (tStep L (tStep L (tStep L ap 6) 4) 3) 18))]))] (.range 21) [(6,.obj [pI 0,pI 0,pI 0,pI 0])] [(6,.obj [pI 2,pI (v2 + e4),pI (f2 + (tNext L (tStep L (tStep L ap 6) 4) 3)),pI (1 + (tNext L (tStep L (tStep L (tStep L ap 6) 4) 3) 18))])] [(0,.obj [pS 1 false encI L,pN (tStep L (tStep L (tStep L (tStep L ap 6) 4) 3) 18)]),(5,oB true 1 encI ([0,0,0,5] : List Int)),(4,oB true 1 encI ([3,0,3,1,2,3] : List Int)),(1,oB true 4 eWindow os),(2,.obj [pI f0,pI f1,pI f2,pI f3]),(3,.obj [pI v0,pI v1,pI v2,pI v3])] rfl rfl rfl rfl rfl (s_store_ptr tab_28 rfl rfl rfl rfl rfl (Nat.le_of_ble_eq_true rfl) ⟨rfl,rfl,rfl⟩) rfl rfl (d_end ⟨by kernel_rfl, ?_⟩))
    refine q_then (w_seq (W_drawn tabOk mixed hnt [[],[],[],[2],[],[4],[2,3,4,5],[],[7],[],[9],[7,8,9,10],[0,2,3,4,5,6],[0,2,3,4,5,6,12],(.range 14),(.range 15)] (by kernel_rfl) (d_op (x_run0 [(9,pI 2)] [] rfl rfl rfl rfl (s_move rfl ⟨rfl,rfl,rfl⟩) (d_op ?_)))))
    refine x_run0 [(9,pI 2)] [] rfl rfl rfl rfl (s_move rfl ⟨rfl,rfl,rfl⟩) (d_op (x_run0 [(10,PV.ptr 6 0)] [] rfl rfl rfl rfl (s_fa_ptr tab_28 rfl rfl tab_3 (by decide) rfl ⟨rfl,rfl,rfl⟩) (d_op (xL [(54,PV.ptr 6 1)] [2] [(6,.obj [pI 2,pI (v2 + e4),pI (f2 + (tNext L (tStep L (tStep L ap 6) 4) 3)),pI (1 + (tNext L (tStep L (tStep L (tStep L ap 6) 4) 3) 18))])] rfl rfl rfl rfl rfl (s_load_ptr1 tab_3 rfl rfl rfl rfl rfl ⟨rfl,rfl,rfl⟩) ⟨rfl,trivial⟩ rfl (d_op ?_)))))
    refine x_run0 [(10,PV.ptr 6 0)] [] rfl rfl rfl rfl (s_fa_ptr tab_28 rfl rfl tab_3 (by decide) rfl ⟨rfl,rfl,rfl⟩) (d_op (xL [(56,PV.ptr 6 3)] [4] [(6,.obj [pI 2,pI (v2 + e4),pI (f2 + (tNext L (tStep L (tStep L ap 6) 4) 3)),pI (1 + (tNext L (tStep L (tStep L (tStep L ap 6) 4) 3) 18))])] rfl rfl rfl rfl rfl (s_load_ptr1 tab_3 rfl rfl rfl rfl rfl ⟨rfl,rfl,rfl⟩) ⟨rfl,trivial⟩ rfl (d_op (x_run0 [(55,pI (v2 + e4)),(57,pI (1 + (tNext L (tStep L (tStep L (tStep L ap 6) 4) 3) 18)))] [2,3,4,5] rfl rfl rfl rfl (s_addi (r := (v2 + e4) + (1 + (tNext L (tStep L (tStep L (tStep L ap 6) 4) 3) 18))) rfl rfl rfl (by omega) ⟨rfl,rfl,rfl⟩) (d_op ?_)))))
    refine x_run0 [(10,PV.ptr 6 0)] [] rfl rfl rfl rfl (s_fa_ptr tab_28 rfl rfl tab_3 (by decide) rfl ⟨rfl,rfl,rfl⟩) (d_op (xL [(59,PV.ptr 6 2)] [7] [(6,.obj [pI 2,pI (v2 + e4),pI (f2 + (tNext L (tStep L (tStep L ap 6) 4) 3)),pI (1 + (tNext L (tStep L (tStep L (tStep L ap 6) 4) 3) 18))])] rfl rfl rfl rfl rfl (s_load_ptr1 tab_3 rfl rfl rfl rfl rfl ⟨rfl,rfl,rfl⟩) ⟨rfl,trivial⟩ rfl (d_op (x_run0 [(10,PV.ptr 6 0)] [] rfl rfl rfl rfl (s_fa_ptr tab_28 rfl rfl tab_3 (by decide) rfl ⟨rfl,rfl,rfl⟩) (d_op ?_)))))
    refine xL [(61,PV.ptr 6 3)] [9] [(6,.obj [pI 2,pI (v2 + e4),pI (f2 + (tNext L (tStep L (tStep L ap 6) 4) 3)),pI (1 + (tNext L (tStep L (tStep L (tStep L ap 6) 4) 3) 18))])] rfl rfl rfl rfl rfl (s_load_ptr1 tab_3 rfl rfl rfl rfl rfl ⟨rfl,rfl,rfl⟩) ⟨rfl,trivial⟩ rfl (d_op (x_run0 [(60,pI (f2 + (tNext L (tStep L (tStep L ap 6) 4) 3))),(62,pI (1 + (tNext L (tStep L (tStep L (tStep L ap 6) 4) 3) 18)))] [7,8,9,10] rfl rfl rfl rfl (s_addi (r := (f2 + (tNext L (tStep L (tStep L ap 6) 4) 3)) + (1 + (tNext L (tStep L (tStep L (tStep L ap 6) 4) 3) 18))) rfl rfl rfl (by omega) ⟨rfl,rfl,rfl⟩) (d_op (xL [(7,PV.ptr 3 0),(52,pI 2)] [0,2,3,4,5,6] [(3,.obj [pI v0,pI v1,pI v2,pI v3])] rfl rfl rfl rfl rfl (s_ia_arrN (q := 2) tab_145 rfl tab_3 rfl (by omega) rfl (by omega) ⟨rfl,rfl,rfl⟩) ⟨rfl,trivial⟩ rfl (d_op ?_)))))
    refine xT [(64,PV.ptr 3 2),(58,pI ((v2 + e4) + (1 + (tNext L (tStep L (tStep L (tStep L ap 6) 4) 3) 18))))] [0,2,3,4,5,6,12] [(3,.obj [pI v0,pI v1,pI v2,pI v3])] [(3,.obj [pI v0,pI v1,pI ((v2 + e4) + (1 + (tNext L (tStep L (tStep L (tStep L ap 6) 4) 3) 18))),pI v3])] [(6,.obj [pI 2,pI (v2 + e4),pI (f2 + (tNext L (tStep L (tStep L ap 6) 4) 3)),pI (1 + (tNext L (tStep L (tStep L (tStep L ap 6) 4) 3) 18))]),(0,.obj [pS 1 false encI L,pN (tStep L (tStep L (tStep L (tStep L ap 6) 4) 3) 18)]),(5,oB true 1 encI ([0,0,0,5] : List Int)),(4,oB true 1 encI ([3,0,3,1,2,3] : List Int)),(1,oB true 4 eWindow os),(2,.obj [pI f0,pI f1,pI f2,pI f3])] rfl rfl rfl rfl rfl (s_store_ptr tab_3 rfl rfl rfl rfl rfl (Nat.le_of_ble_eq_true rfl) ⟨rfl,rfl,rfl⟩) rfl rfl (d_op (xL [(6,PV.ptr 2 0),(53,pI 2)] (.range 14) [(2,.obj [pI f0,pI f1,pI f2,pI f3])] rfl rfl rfl rfl rfl (s_ia_arrN (q := 2) tab_145 rfl tab_3 rfl (by omega) rfl (by omega) ⟨rfl,rfl,rfl⟩) ⟨rfl,trivial⟩ rfl (d_op (xT [(65,PV.ptr 2 2),(63,pI ((f2 + (tNext L (tStep L (tStep L ap 6) 4) 3)) + (1 + (tNext L (tStep L (tStep L (tStep L ap 6) 4) 3) 18))))] (.range 15) [(2,.obj [pI f0,pI f1,pI f2,pI f3])] [(2,.obj [pI f0,pI f1,pI ((f2 + (tNext L (tStep L (tStep L ap 6) 4) 3)) + (1 + (tNext L (tStep L (tStep L (tStep L ap 6) 4) 3) 18))),pI f3])] [(3,.obj [pI v0,pI v1,pI ((v2 + e4) + (1 + (tNext L (tStep L (tStep L (tStep L ap 6) 4) 3) 18))),pI v3]),(6,.obj [pI 2,pI (v2 + e4),pI (f2 + (tNext L (tStep L (tStep L ap 6) 4) 3)),pI (1 + (tNext L (tStep L (tStep L (tStep L ap 6) 4) 3) 18))]),(0,.obj [pS 1 false encI L,pN (tStep L (tStep L (tStep L (tStep L ap 6) 4) 3) 18)]),(5,oB true 1 encI ([0,0,0,5] : List Int)),(4,oB true 1 encI ([3,0,3,1,2,3] : List Int)),(1,oB true 4 eWindow os)] rfl rfl rfl rfl rfl (s_store_ptr tab_3 rfl rfl rfl rfl rfl (Nat.le_of_ble_eq_true rfl) ⟨rfl,rfl,rfl⟩) rfl rfl (d_end ⟨by kernel_rfl, ?_⟩)))))
    refine q_then (w_R (qm hnt rfl rfl (qo hnt rfl (s_load_ptr tab_28 rfl rfl rfl (Nat.le_of_ble_eq_true rfl) ?_))))
    refine qo hnt rfl (s_mkM (f := eWindow) [(⟨2,v2 + e4,f2 + (tNext L (tStep L (tStep L ap 6) 4) 3),1 + (tNext L (tStep L (tStep L (tStep L ap 6) 4) 3) 18)⟩ : TWindow)] tab_22 rfl tab_28 ⟨rfl,by decide⟩ (by decide) rfl rfl rfl rfl ?_)
    refine qo hnt rfl (s_appR0 (f := eWindow) (l := os) (xs := [(⟨2,v2 + e4,f2 + (tNext L (tStep L (tStep L ap 6) 4) 3),1 + (tNext L (tStep L (tStep L (tStep L ap 6) 4) 3) 18)⟩ : TWindow)]) tab_22 rfl tab_28 ⟨rfl,by decide,by decide⟩ (srcM tab_22 rfl (hM_ref0 (f := eWindow) rfl rfl)) rfl rfl (by (simp; omega)) ?_)
    refine qa hnt rfl rfl (r_set [(0,PV.ptr 0 0),(5,PV.ref 8 0 none),(6,PV.ptr 2 0),(7,PV.ptr 3 0),(8,pI kk)] [(8,oB true 4 eWindow (os ++ [(⟨2,v2 + e4,f2 + (tNext L (tStep L (tStep L ap 6) 4) 3),1 + (tNext L (tStep L (tStep L (tStep L ap 6) 4) 3) 18)⟩ : TWindow)])),(7,oB true 4 eWindow [(⟨2,v2 + e4,f2 + (tNext L (tStep L (tStep L ap 6) 4) 3),1 + (tNext L (tStep L (tStep L (tStep L ap 6) 4) 3) 18)⟩ : TWindow)]),(2,.obj [pI f0,pI f1,pI ((f2 + (tNext L (tStep L (tStep L ap 6) 4) 3)) + (1 + (tNext L (tStep L (tStep L (tStep L ap 6) 4) 3) 18))),pI f3]),(3,.obj [pI v0,pI v1,pI ((v2 + e4) + (1 + (tNext L (tStep L (tStep L (tStep L ap 6) 4) 3) 18))),pI v3]),(6,.obj [pI 2,pI (v2 + e4),pI (f2 + (tNext L (tStep L (tStep L ap 6) 4) 3)),pI (1 + (tNext L (tStep L (tStep L (tStep L ap 6) 4) 3) 18))]),(0,.obj [pS 1 false encI L,pN (tStep L (tStep L (tStep L (tStep L ap 6) 4) 3) 18)]),(5,oB true 1 encI ([0,0,0,5] : List Int)),(4,oB true 1 encI ([3,0,3,1,2,3] : List Int))] 9 ⟨rfl,rfl,rfl,rfl,rfl,trivial⟩ rfl rfl (r_end (q_block (q_then (w_R ?_)))))
    refine qm hnt rfl rfl (qo hnt rfl (s_subi (r := kk - 1) rfl rfl rfl (by omega) ?_))
    refine qa hnt rfl rfl (r_end (q_then (⟨(tStep L (tStep L (tStep L (tStep L ap 6) 4) 3) 18),(os ++ [(⟨2,v2 + e4,f2 + (tNext L (tStep L (tStep L ap 6) 4) 3),1 + (tNext L (tStep L (tStep L (tStep L ap 6) 4) 3) 18)⟩ : TWindow)]),(f0),(f1),((f2 + (tNext L (tStep L (tStep L ap 6) 4) 3)) + (1 + (tNext L (tStep L (tStep L (tStep L ap 6) 4) 3) 18))),(f3),(v0),(v1),((v2 + e4) + (1 + (tNext L (tStep L (tStep L (tStep L ap 6) 4) 3) 18))),(v3),(kk - 1), ?_, ?_,⟨[(0,0),(1,8),(2,2),(3,3)],by rw [hk]; decide,⟨⟨_,rfl,rfl,rfl⟩,⟨_,rfl,rfl,rfl⟩,⟨_,rfl,rfl,rfl⟩,⟨_,rfl,rfl,rfl⟩,⟨_,rfl,rfl,rfl⟩,trivial⟩,⟨⟨_,_,rfl,rfl,rfl,rfl⟩,⟨_,_,rfl,rfl,rfl,rfl⟩,⟨_,_,rfl,rfl,rfl,rfl⟩,⟨_,_,rfl,rfl,rfl,rfl⟩,trivial⟩,by rw [hk]; decide⟩⟩)))
    ·refine ⟨by simp; omega,by omega, ?_⟩
     exact hW.step2 (by omega) (by omega) (by omega)
    · omega
   ·refine w_eq (s := 9) (y := pI 3) rfl (congrArg pI hs1) (W_drawn tabOk mixed hnt [[],[],[1],[1,2],[],[],[5],[4,5,6],[4,5,6,7],[1,2,3,4,5,6,7,8],[],[10],[10,11],[],[5,6,13],[5,6,10,11,12,13,14],[],[5,6,13,14,16],[5,6,13,14,16,17],(.range 19),[],(.range 21)] (by kernel_rfl) (d_op (x_run0 [(9,pI 3)] [] rfl rfl rfl rfl (s_move rfl ⟨rfl,rfl,rfl⟩) (d_op (x_run0 [(9,pI 3)] [] rfl rfl rfl rfl (s_move rfl ⟨rfl,rfl,rfl⟩) ?_)))))
    refine d_op (xL [(7,PV.ptr 3 0),(33,pI 3)] [1] [(3,.obj [pI v0,pI v1,pI v2,pI v3])] rfl rfl rfl rfl rfl (s_ia_arrN (q := 3) tab_145 rfl tab_3 rfl (by omega) rfl (by omega) ⟨rfl,rfl,rfl⟩) ⟨rfl,trivial⟩ rfl (d_op (xL [(34,PV.ptr 3 3)] [1,2] [(3,.obj [pI v0,pI v1,pI v2,pI v3])] rfl rfl rfl rfl rfl (s_load_ptr1 tab_3 rfl rfl rfl rfl rfl ⟨rfl,rfl,rfl⟩) ⟨rfl,trivial⟩ rfl (d_op (xT [] [] [] [(5,oB true 1 encI ([0,0,0,5] : List Int))] [(0,.obj [pS 1 false encI L,pN (tStep L ap 6)]),(4,oB true 1 encI ([3,0,3,1,2,3] : List Int)),(1,oB true 4 eWindow os),(2,.obj [pI f0,pI f1,pI f2,pI f3]),(3,.obj [pI v0,pI v1,pI v2,pI v3])] rfl rfl rfl rfl rfl (s_mkM (f := encI) ([0,0,0,5] : List Int) tab_24 rfl tab_3 ⟨rfl,by decide⟩ (by decide) rfl rfl rfl rfl ⟨rfl,rfl,rfl⟩) rfl rfl ?_)))))
    refine d_op (x_run0 [(0,PV.ptr 0 0)] [] rfl rfl rfl rfl (s_move rfl ⟨rfl,rfl,rfl⟩) (d_op (xT [(37,PV.ptr 0 0)] [5] [(0,.obj [pS 1 false encI L,pN (tStep L ap 6)])] [(0,.obj [pS 1 false encI L,pN (tStep L (tStep L ap 6) 4)])] [(5,oB true 1 encI ([0,0,0,5] : List Int)),(4,oB true 1 encI ([3,0,3,1,2,3] : List Int)),(1,oB true 4 eWindow os),(2,.obj [pI f0,pI f1,pI f2,pI f3]),(3,.obj [pI v0,pI v1,pI v2,pI v3])] rfl rfl rfl rfl rfl (s_callX (r2 := pI (tNext L (tStep L ap 6) 4)) (nx1 := 6) (H2 := [(0,.obj [pS 1 false encI L,pN (tStep L ap 6)])]) (H3 := [(0,.obj [pS 1 false encI L,pN (tStep L (tStep L ap 6) 4)])]) [0] [.obj [pS 1 false encI L,pN (tStep L ap 6)]] rfl rfl rfl (handed_of (by decide) ⟨rfl,trivial⟩) rfl rfl rfl rfl rfl rfl (w_burgagekeep_Tape_Next L false (tStep L ap 6) 4 (by omega) (by omega)) rfl (dist_of rfl) rfl rfl rfl rfl ⟨rfl,rfl,rfl⟩) rfl rfl ?_)))
    have hb38 := tNext_lt L (tStep L ap 6) (n := 4) (by decide)
    refine d_op (xL [(36,PV.ref 5 0 none),(38,pI (tNext L (tStep L ap 6) 4))] [4,5,6] [(5,oB true 1 encI ([0,0,0,5] : List Int))] rfl rfl rfl rfl rfl (s_iaR0 (q := Int.toNat (tNext L (tStep L ap 6) 4)) (f := encI) (l := ([0,0,0,5] : List Int)) tab_24 rfl tab_3 rfl rfl (by omega) rfl rfl (by simp; omega) ⟨rfl,rfl,rfl⟩) ⟨rfl,trivial⟩ rfl (d_op ?_))
    obtain ⟨e5,he5⟩ := get_of_lt ([0,0,0,5] : List Int) (i := Int.toNat (tNext L (tStep L ap 6) 4)) (by simp; omega)
    refine xL [(39,PV.ep 5 (Int.toNat (tNext L (tStep L ap 6) 4)) 0)] [4,5,6,7] [(5,oB true 1 encI ([0,0,0,5] : List Int))] rfl rfl rfl rfl rfl (s_ldM (b := e5) (f := encI) tab_3 rfl rfl rfl rfl he5 rfl ⟨rfl,rfl,rfl⟩) ⟨rfl,trivial⟩ rfl ?_
    have hd4 := List.mem_of_getElem? he5
    simp only [List.mem_cons,List.not_mem_nil,or_false] at hd4
    refine d_op (x_run0 [(35,pI v3),(40,pI e5)] [1,2,3,4,5,6,7,8] rfl rfl rfl rfl (s_addi (r := v3 + e5) rfl rfl rfl (by omega) ⟨rfl,rfl,rfl⟩) (d_op (x_run0 [(9,pI 3)] [] rfl rfl rfl rfl (s_move rfl ⟨rfl,rfl,rfl⟩) (d_op (xL [(6,PV.ptr 2 0),(42,pI 3)] [10] [(2,.obj [pI f0,pI f1,pI f2,pI f3])] rfl rfl rfl rfl rfl (s_ia_arrN (q := 3) tab_145 rfl tab_3 rfl (by omega) rfl (by omega) ⟨rfl,rfl,rfl⟩) ⟨rfl,trivial⟩ rfl ?_)))))
    refine d_op (xL [(43,PV.ptr 2 3)] [10,11] [(2,.obj [pI f0,pI f1,pI f2,pI f3])] rfl rfl rfl rfl rfl (s_load_ptr1 tab_3 rfl rfl rfl rfl rfl ⟨rfl,rfl,rfl⟩) ⟨rfl,trivial⟩ rfl (d_op (x_run0 [(0,PV.ptr 0 0)] [] rfl rfl rfl rfl (s_move rfl ⟨rfl,rfl,rfl⟩) (d_op (xT [(45,PV.ptr 0 0)] [5,6,13] [(0,.obj [pS 1 false encI L,pN (tStep L (tStep L ap 6) 4)])] [(0,.obj [pS 1 false encI L,pN (tStep L (tStep L (tStep L ap 6) 4) 3)])] [(5,oB true 1 encI ([0,0,0,5] : List Int)),(4,oB true 1 encI ([3,0,3,1,2,3] : List Int)),(1,oB true 4 eWindow os),(2,.obj [pI f0,pI f1,pI f2,pI f3]),(3,.obj [pI v0,pI v1,pI v2,pI v3])] rfl rfl rfl rfl rfl (s_callX (r2 := pI (tNext L (tStep L (tStep L ap 6) 4) 3)) (nx1 := 6) (H2 := [(0,.obj [pS 1 false encI L,pN (tStep L (tStep L ap 6) 4)])]) (H3 := [(0,.obj [pS 1 false encI L,pN (tStep L (tStep L (tStep L ap 6) 4) 3)])]) [0] [.obj [pS 1 false encI L,pN (tStep L (tStep L ap 6) 4)]] rfl rfl rfl (handed_of (by decide) ⟨rfl,trivial⟩) rfl rfl rfl rfl rfl rfl (w_burgagekeep_Tape_Next L false (tStep L (tStep L ap 6) 4) 3 (by omega) (by omega)) rfl (dist_of rfl) rfl rfl rfl rfl ⟨rfl,rfl,rfl⟩) rfl rfl ?_)))))
    have hb46 := tNext_lt L (tStep L (tStep L ap 6) 4) (n := 3) (by decide)
    refine d_op (x_run0 [(44,pI f3),(46,pI (tNext L (tStep L (tStep L ap 6) 4) 3))] [5,6,10,11,12,13,14] rfl rfl rfl rfl (s_addi (r := f3 + (tNext L (tStep L (tStep L ap 6) 4) 3)) rfl rfl rfl (by omega) ⟨rfl,rfl,rfl⟩) (d_op (x_run0 [(0,PV.ptr 0 0)] [] rfl rfl rfl rfl (s_move rfl ⟨rfl,rfl,rfl⟩) (d_op (xT [(48,PV.ptr 0 0)] [5,6,13,14,16] [(0,.obj [pS 1 false encI L,pN (tStep L (tStep L (tStep L ap 6) 4) 3)])] [(0,.obj [pS 1 false encI L,pN (tStep L (tStep L (tStep L (tStep L ap 6) 4) 3) 18)])] [(5,oB true 1 encI ([0,0,0,5] : List Int)),(4,oB true 1 encI ([3,0,3,1,2,3] : List Int)),(1,oB true 4 eWindow os),(2,.obj [pI f0,pI f1,pI f2,pI f3]),(3,.obj [pI v0,pI v1,pI v2,pI v3])] rfl rfl rfl rfl rfl (s_callX (r2 := pI (tNext L (tStep L (tStep L (tStep L ap 6) 4) 3) 18)) (nx1 := 6) (H2 := [(0,.obj [pS 1 false encI L,pN (tStep L (tStep L (tStep L ap 6) 4) 3)])]) (H3 := [(0,.obj [pS 1 false encI L,pN (tStep L (tStep L (tStep L (tStep L ap 6) 4) 3) 18)])]) [0] [.obj [pS 1 false encI L,pN (tStep L (tStep L (tStep L ap 6) 4) 3)]] rfl rfl rfl (handed_of (by decide) ⟨rfl,trivial⟩) rfl rfl rfl rfl rfl rfl (w_burgagekeep_Tape_Next L false (tStep L (tStep L (tStep L ap 6) 4) 3) 18 (by omega) (by omega)) rfl (dist_of rfl) rfl rfl rfl rfl ⟨rfl,rfl,rfl⟩) rfl rfl ?_)))))
    have hb49 := tNext_lt L (tStep L (tStep L (tStep L ap 6) 4) 3) (n := 18) (by decide)
    refine d_op (x_run0 [(49,pI (tNext L (tStep L (tStep L (tStep L ap 6) 4) 3) 18))] [5,6,13,14,16,17] rfl rfl rfl rfl (s_addi (r := 1 + (tNext L (tStep L (tStep L (tStep L ap 6) 4) 3) 18)) rfl rfl rfl (by omega) ⟨rfl,rfl,rfl⟩) (d_op (x_run0 [(32,pI 3),(41,pI (v3 + e5)),(47,pI (f3 + (tNext L (tStep L (tStep L ap 6) 4) 3))),(50,pI (1 + (tNext L (tStep L (tStep L (tStep L ap 6) 4) 3) 18)))] (.range 19) rfl rfl rfl rfl (s_build tab_28 rfl rfl (b_cons rfl tab_3 rfl rfl rfl (Nat.le_of_ble_eq_true rfl) (b_cons rfl tab_3 rfl rfl rfl (Nat.le_of_ble_eq_true rfl) (b_cons rfl tab_3 rfl rfl rfl (Nat.le_of_ble_eq_true rfl) (b_cons rfl tab_3 rfl rfl rfl (Nat.le_of_ble_eq_true rfl) (b_nilN (cs' := [pI 3,pI (v3 + e5),pI (f3 + (tNext L (tStep L (tStep L ap 6) 4) 3)),pI (1 + (tNext L (tStep L (tStep L (tStep L ap 6) 4) 3) 18))]) rfl ⟨rfl,rfl,rfl⟩)))))) (d_op (xT [] [] [] [(6,.obj [pI 0,pI 0,pI 0,pI 0])] [(0,.obj [pS 1 false encI L,pN (tStep L (tStep L (tStep L (tStep L ap 6) 4) 3) 18)]),(5,oB true 1 encI ([0,0,0,5] : List Int)),(4,oB true 1 encI ([3,0,3,1,2,3] : List Int)),(1,oB true 4 eWindow os),(2,.obj [pI f0,pI f1,pI f2,pI f3]),(3,.obj [pI v0,pI v1,pI v2,pI v3])] rfl rfl rfl rfl rfl (s_alloc tab_28 ⟨rfl,rfl,rfl⟩) rfl rfl ?_)))))
    refine d_op (xT [(10,PV.ptr 6 0),(51,PV.f (.agg [encI 3,encI (v3 + e5),encI (f3 + (tNext L (tStep L (tStep L ap 6) 4) 3)),encI (1 + (tNext L (tStep L (tStep L (tStep L ap 6) 4) 3) 18))]))] (.range 21) [(6,.obj [pI 0,pI 0,pI 0,pI 0])] [(6,.obj [pI 3,pI (v3 + e5),pI (f3 + (tNext L (tStep L (tStep L ap 6) 4) 3)),pI (1 + (tNext L (tStep L (tStep L (tStep L ap 6) 4) 3) 18))])] [(0,.obj [pS 1 false encI L,pN (tStep L (tStep L (tStep L (tStep L ap 6) 4) 3) 18)]),(5,oB true 1 encI ([0,0,0,5] : List Int)),(4,oB true 1 encI ([3,0,3,1,2,3] : List Int)),(1,oB true 4 eWindow os),(2,.obj [pI f0,pI f1,pI f2,pI f3]),(3,.obj [pI v0,pI v1,pI v2,pI v3])] rfl rfl rfl rfl rfl (s_store_ptr tab_28 rfl rfl rfl rfl rfl (Nat.le_of_ble_eq_true rfl) ⟨rfl,rfl,rfl⟩) rfl rfl (d_end ⟨by kernel_rfl, ?_⟩))
    refine q_then (w_seq (W_drawn tabOk mixed hnt [[],[],[],[2],[],[4],[2,3,4,5],[],[7],[],[9],[7,8,9,10],[0,2,3,4,5,6],[0,2,3,4,5,6,12],(.range 14),(.range 15)] (by kernel_rfl) (d_op (x_run0 [(9,pI 3)] [] rfl rfl rfl rfl (s_move rfl ⟨rfl,rfl,rfl⟩) (d_op ?_)))))
    refine x_run0 [(9,pI 3)] [] rfl rfl rfl rfl (s_move rfl ⟨rfl,rfl,rfl⟩) (d_op (x_run0 [(10,PV.ptr 6 0)] [] rfl rfl rfl rfl (s_fa_ptr tab_28 rfl rfl tab_3 (by decide) rfl ⟨rfl,rfl,rfl⟩) (d_op (xL [(54,PV.ptr 6 1)] [2] [(6,.obj [pI 3,pI (v3 + e5),pI (f3 + (tNext L (tStep L (tStep L ap 6) 4) 3)),pI (1 + (tNext L (tStep L (tStep L (tStep L ap 6) 4) 3) 18))])] rfl rfl rfl rfl rfl (s_load_ptr1 tab_3 rfl rfl rfl rfl rfl ⟨rfl,rfl,rfl⟩) ⟨rfl,trivial⟩ rfl (d_op ?_)))))
    refine x_run0 [(10,PV.ptr 6 0)] [] rfl rfl rfl rfl (s_fa_ptr tab_28 rfl rfl tab_3 (by decide) rfl ⟨rfl,rfl,rfl⟩) (d_op (xL [(56,PV.ptr 6 3)] [4] [(6,.obj [pI 3,pI (v3 + e5),pI (f3 + (tNext L (tStep L (tStep L ap 6) 4) 3)),pI (1 + (tNext L (tStep L (tStep L (tStep L ap 6) 4) 3) 18))])] rfl rfl rfl rfl rfl (s_load_ptr1 tab_3 rfl rfl rfl rfl rfl ⟨rfl,rfl,rfl⟩) ⟨rfl,trivial⟩ rfl (d_op (x_run0 [(55,pI (v3 + e5)),(57,pI (1 + (tNext L (tStep L (tStep L (tStep L ap 6) 4) 3) 18)))] [2,3,4,5] rfl rfl rfl rfl (s_addi (r := (v3 + e5) + (1 + (tNext L (tStep L (tStep L (tStep L ap 6) 4) 3) 18))) rfl rfl rfl (by omega) ⟨rfl,rfl,rfl⟩) (d_op ?_)))))
    refine x_run0 [(10,PV.ptr 6 0)] [] rfl rfl rfl rfl (s_fa_ptr tab_28 rfl rfl tab_3 (by decide) rfl ⟨rfl,rfl,rfl⟩) (d_op (xL [(59,PV.ptr 6 2)] [7] [(6,.obj [pI 3,pI (v3 + e5),pI (f3 + (tNext L (tStep L (tStep L ap 6) 4) 3)),pI (1 + (tNext L (tStep L (tStep L (tStep L ap 6) 4) 3) 18))])] rfl rfl rfl rfl rfl (s_load_ptr1 tab_3 rfl rfl rfl rfl rfl ⟨rfl,rfl,rfl⟩) ⟨rfl,trivial⟩ rfl (d_op (x_run0 [(10,PV.ptr 6 0)] [] rfl rfl rfl rfl (s_fa_ptr tab_28 rfl rfl tab_3 (by decide) rfl ⟨rfl,rfl,rfl⟩) (d_op ?_)))))
    refine xL [(61,PV.ptr 6 3)] [9] [(6,.obj [pI 3,pI (v3 + e5),pI (f3 + (tNext L (tStep L (tStep L ap 6) 4) 3)),pI (1 + (tNext L (tStep L (tStep L (tStep L ap 6) 4) 3) 18))])] rfl rfl rfl rfl rfl (s_load_ptr1 tab_3 rfl rfl rfl rfl rfl ⟨rfl,rfl,rfl⟩) ⟨rfl,trivial⟩ rfl (d_op (x_run0 [(60,pI (f3 + (tNext L (tStep L (tStep L ap 6) 4) 3))),(62,pI (1 + (tNext L (tStep L (tStep L (tStep L ap 6) 4) 3) 18)))] [7,8,9,10] rfl rfl rfl rfl (s_addi (r := (f3 + (tNext L (tStep L (tStep L ap 6) 4) 3)) + (1 + (tNext L (tStep L (tStep L (tStep L ap 6) 4) 3) 18))) rfl rfl rfl (by omega) ⟨rfl,rfl,rfl⟩) (d_op (xL [(7,PV.ptr 3 0),(52,pI 3)] [0,2,3,4,5,6] [(3,.obj [pI v0,pI v1,pI v2,pI v3])] rfl rfl rfl rfl rfl (s_ia_arrN (q := 3) tab_145 rfl tab_3 rfl (by omega) rfl (by omega) ⟨rfl,rfl,rfl⟩) ⟨rfl,trivial⟩ rfl (d_op ?_)))))
    refine xT [(64,PV.ptr 3 3),(58,pI ((v3 + e5) + (1 + (tNext L (tStep L (tStep L (tStep L ap 6) 4) 3) 18))))] [0,2,3,4,5,6,12] [(3,.obj [pI v0,pI v1,pI v2,pI v3])] [(3,.obj [pI v0,pI v1,pI v2,pI ((v3 + e5) + (1 + (tNext L (tStep L (tStep L (tStep L ap 6) 4) 3) 18)))])] [(6,.obj [pI 3,pI (v3 + e5),pI (f3 + (tNext L (tStep L (tStep L ap 6) 4) 3)),pI (1 + (tNext L (tStep L (tStep L (tStep L ap 6) 4) 3) 18))]),(0,.obj [pS 1 false encI L,pN (tStep L (tStep L (tStep L (tStep L ap 6) 4) 3) 18)]),(5,oB true 1 encI ([0,0,0,5] : List Int)),(4,oB true 1 encI ([3,0,3,1,2,3] : List Int)),(1,oB true 4 eWindow os),(2,.obj [pI f0,pI f1,pI f2,pI f3])] rfl rfl rfl rfl rfl (s_store_ptr tab_3 rfl rfl rfl rfl rfl (Nat.le_of_ble_eq_true rfl) ⟨rfl,rfl,rfl⟩) rfl rfl (d_op (xL [(6,PV.ptr 2 0),(53,pI 3)] (.range 14) [(2,.obj [pI f0,pI f1,pI f2,pI f3])] rfl rfl rfl rfl rfl (s_ia_arrN (q := 3) tab_145 rfl tab_3 rfl (by omega) rfl (by omega) ⟨rfl,rfl,rfl⟩) ⟨rfl,trivial⟩ rfl (d_op (xT [(65,PV.ptr 2 3),(63,pI ((f3 + (tNext L (tStep L (tStep L ap 6) 4) 3)) + (1 + (tNext L (tStep L (tStep L (tStep L ap 6) 4) 3) 18))))] (.range 15) [(2,.obj [pI f0,pI f1,pI f2,pI f3])] [(2,.obj [pI f0,pI f1,pI f2,pI ((f3 + (tNext L (tStep L (tStep L ap 6) 4) 3)) + (1 + (tNext L (tStep L (tStep L (tStep L ap 6) 4) 3) 18)))])] [(3,.obj [pI v0,pI v1,pI v2,pI ((v3 + e5) + (1 + (tNext L (tStep L (tStep L (tStep L ap 6) 4) 3) 18)))]),(6,.obj [pI 3,pI (v3 + e5),pI (f3 + (tNext L (tStep L (tStep L ap 6) 4) 3)),pI (1 + (tNext L (tStep L (tStep L (tStep L ap 6) 4) 3) 18))]),(0,.obj [pS 1 false encI L,pN (tStep L (tStep L (tStep L (tStep L ap 6) 4) 3) 18)]),(5,oB true 1 encI ([0,0,0,5] : List Int)),(4,oB true 1 encI ([3,0,3,1,2,3] : List Int)),(1,oB true 4 eWindow os)] rfl rfl rfl rfl rfl (s_store_ptr tab_3 rfl rfl rfl rfl rfl (Nat.le_of_ble_eq_true rfl) ⟨rfl,rfl,rfl⟩) rfl rfl (d_end ⟨by kernel_rfl, ?_⟩)))))
    refine q_then (w_R (qm hnt rfl rfl (qo hnt rfl (s_load_ptr tab_28 rfl rfl rfl (Nat.le_of_ble_eq_true rfl) ?_))))
    refine qo hnt rfl (s_mkM (f := eWindow) [(⟨3,v3 + e5,f3 + (tNext L (tStep L (tStep L ap 6) 4) 3),1 + (tNext L (tStep L (tStep L (tStep L ap 6) 4) 3) 18)⟩ : TWindow)] tab_22 rfl tab_28 ⟨rfl,by decide⟩ (by decide) rfl rfl rfl rfl ?_)
    refine qo hnt rfl (s_appR0 (f := eWindow) (l := os) (xs := [(⟨3,v3 + e5,f3 + (tNext L (tStep L (tStep L ap 6) 4) 3),1 + (tNext L (tStep L (tStep L (tStep L ap 6) 4) 3) 18)⟩ : TWindow)]) tab_22 rfl tab_28 ⟨rfl,by decide,by decide⟩ (srcM tab_22 rfl (hM_ref0 (f := eWindow) rfl rfl)) rfl rfl (by (simp; omega)) ?_)
    refine qa hnt rfl rfl (r_set [(0,PV.ptr 0 0),(5,PV.ref 8 0 none),(6,PV.ptr 2 0),(7,PV.ptr 3 0),(8,pI kk)] [(8,oB true 4 eWindow (os ++ [(⟨3,v3 + e5,f3 + (tNext L (tStep L (tStep L ap 6) 4) 3),1 + (tNext L (tStep L (tStep L (tStep L ap 6) 4) 3) 18)⟩ : TWindow)])),(7,oB true 4 eWindow [(⟨3,v3 + e5,f3 + (tNext L (tStep L (tStep L ap 6) 4) 3),1 + (tNext L (tStep L (tStep L (tStep L ap 6) 4) 3) 18)⟩ : TWindow)]),(2,.obj [pI f0,pI f1,pI f2,pI ((f3 + (tNext L (tStep L (tStep L ap 6) 4) 3)) + (1 + (tNext L (tStep L (tStep L (tStep L ap 6) 4) 3) 18)))]),(3,.obj [pI v0,pI v1,pI v2,pI ((v3 + e5) + (1 + (tNext L (tStep L (tStep L (tStep L ap 6) 4) 3) 18)))]),(6,.obj [pI 3,pI (v3 + e5),pI (f3 + (tNext L (tStep L (tStep L ap 6) 4) 3)),pI (1 + (tNext L (tStep L (tStep L (tStep L ap 6) 4) 3) 18))]),(0,.obj [pS 1 false encI L,pN (tStep L (tStep L (tStep L (tStep L ap 6) 4) 3) 18)]),(5,oB true 1 encI ([0,0,0,5] : List Int)),(4,oB true 1 encI ([3,0,3,1,2,3] : List Int))] 9 ⟨rfl,rfl,rfl,rfl,rfl,trivial⟩ rfl rfl (r_end (q_block (q_then (w_R ?_)))))
    refine qm hnt rfl rfl (qo hnt rfl (s_subi (r := kk - 1) rfl rfl rfl (by omega) ?_))
    refine qa hnt rfl rfl (r_end (q_then (⟨(tStep L (tStep L (tStep L (tStep L ap 6) 4) 3) 18),(os ++ [(⟨3,v3 + e5,f3 + (tNext L (tStep L (tStep L ap 6) 4) 3),1 + (tNext L (tStep L (tStep L (tStep L ap 6) 4) 3) 18)⟩ : TWindow)]),(f0),(f1),(f2),((f3 + (tNext L (tStep L (tStep L ap 6) 4) 3)) + (1 + (tNext L (tStep L (tStep L (tStep L ap 6) 4) 3) 18))),(v0),(v1),(v2),((v3 + e5) + (1 + (tNext L (tStep L (tStep L (tStep L ap 6) 4) 3) 18))),(kk - 1), ?_, ?_,⟨[(0,0),(1,8),(2,2),(3,3)],by rw [hk]; decide,⟨⟨_,rfl,rfl,rfl⟩,⟨_,rfl,rfl,rfl⟩,⟨_,rfl,rfl,rfl⟩,⟨_,rfl,rfl,rfl⟩,⟨_,rfl,rfl,rfl⟩,trivial⟩,⟨⟨_,_,rfl,rfl,rfl,rfl⟩,⟨_,_,rfl,rfl,rfl,rfl⟩,⟨_,_,rfl,rfl,rfl,rfl⟩,⟨_,_,rfl,rfl,rfl,rfl⟩,trivial⟩,by rw [hk]; decide⟩⟩)))
    ·refine ⟨by simp; omega,by omega, ?_⟩
     exact hW.step3 (by omega) (by omega) (by omega)
    · omega
  try simp only [sB] at c1
  refine w_exit (q_then_exit (q_then_exit (q_block_exit (q_then (w_seq ?_)))))
  refine w_R (qm hnt rfl rfl (qa hnt rfl rfl (r_end (q_then (w_frzM (s := 4) (f := eWindow) rfl rfl view_0 ?_)))))
  refine w_ret ?_
  have hex : WinsOk os := by
    exact hW.ok (by omega) (by omega)
  exact fin_names (nx1 := 1) (H1 := [(0,.obj [pS 1 false encI L,pN ap])]) [(0,0)] (ret_tmp rfl ret_nil) rfl (by decide) ⟨⟨_,_,rfl,rfl,rfl,rfl⟩,trivial⟩ (by decide) rfl ⟨(os),(ap),hex,rfl,rfl,rfl⟩
theorem w_burgagekeep_Tape_Table (L : List Int) (cl_L : Bool) (a : Nat) (hL : L.length ≤ 70000000000000) :
    T Try.prog 34 [PV.ptr 0 0] 1 [(0,.obj [pS 1 cl_L encI L,pN a])] (fun ra rb rc => ∃ X : TTable,∃ b : Nat,(TabG X) ∧ (Ret (PV.f (eTable X)) 1 [(0,.obj [pS 1 false encI L,pN b])]) ra rb rc) := by
 refine t_fun tabOk (n := 83) (rs := [.cell 2 73]) Try.func34 rfl rfl rfl rfl (Nat.le_of_ble_eq_true rfl) ?_
 intro c hnt hk
 refine w_seq (w_R (qo hnt rfl (s_alloc tab_73 ?_)))
 refine r_set [(0,PV.ptr 0 0),(2,PV.ptr 1 0)] [(1,.obj [pI 0,pNil]),(0,.obj [pS 1 cl_L encI L,pN a])] 2 ⟨rfl,rfl,trivial⟩ rfl rfl (r_end (q_then (w_seq (w_R (qm hnt rfl rfl ?_)))))
 refine qo hnt rfl (s_callX (r2 := pI (tNext L a 4)) (nx1 := 2) (H2 := [(1,.obj [pI 0,pNil]),(0,.obj [pS 1 cl_L encI L,pN a])]) (H3 := [(0,.obj [pS 1 false encI L,pN (tStep L a 4)]),(1,.obj [pI 0,pNil])]) [0] [.obj [pS 1 cl_L encI L,pN a]] rfl rfl rfl (handed_of (by decide) ⟨rfl,trivial⟩) rfl rfl rfl rfl rfl rfl (w_burgagekeep_Tape_Next L cl_L a 4 (by omega) (by omega)) rfl (dist_of rfl) rfl rfl rfl rfl ?_)
 have hb11 := tNext_lt L a (n := 4) (by decide)
 refine qo hnt rfl (s_addi (r := 1 + (tNext L a 4)) rfl rfl rfl (by omega) ?_)
 refine qa hnt rfl rfl (r_set [(0,PV.ptr 0 0),(2,PV.ptr 1 0),(3,pI (1 + (tNext L a 4)))] [(0,.obj [pS 1 false encI L,pN (tStep L a 4)]),(1,.obj [pI 0,pNil])] 2 ⟨rfl,rfl,rfl,trivial⟩ rfl rfl (r_end (q_then (w_seq (w_R ?_)))))
 refine qo hnt rfl (s_alloc tab_73 ?_)
 refine r_set [(0,PV.ptr 0 0),(2,PV.ptr 1 0),(3,pI (1 + (tNext L a 4))),(4,PV.ptr 2 0)] [(2,.obj [pI 0,pNil]),(0,.obj [pS 1 false encI L,pN (tStep L a 4)]),(1,.obj [pI 0,pNil])] 3 ⟨rfl,rfl,rfl,rfl,trivial⟩ rfl rfl (r_end (q_then (w_seq (w_R (qm hnt rfl rfl ?_)))))
 refine qo hnt rfl (s_callX (r2 := pI (tNext L (tStep L a 4) 5)) (nx1 := 3) (H2 := [(2,.obj [pI 0,pNil]),(0,.obj [pS 1 false encI L,pN (tStep L a 4)]),(1,.obj [pI 0,pNil])]) (H3 := [(0,.obj [pS 1 false encI L,pN (tStep L (tStep L a 4) 5)]),(2,.obj [pI 0,pNil]),(1,.obj [pI 0,pNil])]) [0] [.obj [pS 1 false encI L,pN (tStep L a 4)]] rfl rfl rfl (handed_of (by decide) ⟨rfl,trivial⟩) rfl rfl rfl rfl rfl rfl (w_burgagekeep_Tape_Next L false (tStep L a 4) 5 (by omega) (by omega)) rfl (dist_of rfl) rfl rfl rfl rfl ?_)
 have hb14 := tNext_lt L (tStep L a 4) (n := 5) (by decide)
 refine qa hnt rfl rfl (r_set [(0,PV.ptr 0 0),(2,PV.ptr 1 0),(3,pI (1 + (tNext L a 4))),(4,PV.ptr 2 0),(5,pI (tNext L (tStep L a 4) 5))] [(0,.obj [pS 1 false encI L,pN (tStep L (tStep L a 4) 5)]),(2,.obj [pI 0,pNil]),(1,.obj [pI 0,pNil])] 3 ⟨rfl,rfl,rfl,rfl,rfl,trivial⟩ rfl rfl (r_end (q_then (w_seq (w_seq ?_)))))
 have hn4 := tNext_lt L a (n := 4) (by decide)
 refine w_R (qa hnt rfl rfl (r_end (q_then (w_block (w_adoptC (n := 2) (j := 1) (sz := 5) rfl rfl rfl ?_)))))
 refine loop4 (fun (ap : Nat) (ts : List TTenant) (at1 : Int) (i : Nat) => (i : Int) ≤ 1 + tNext L a 4 ∧ ts.length = i ∧ (∀ p ∈ ts,WinsOk p.windows) ∧ 0 ≤ at1 ∧ at1 ≤ 5 + 172 * (i : Int)) (fun (ap : Nat) (ts : List TTenant) (at1 : Int) (i : Nat) => [(0,PV.ptr 0 0),(2,PV.ptr 3 0),(3,pI (1 + (tNext L a 4))),(4,PV.ptr 1 0),(5,pI at1),(6,pN i)]) 4 (fun (ap : Nat) (ts : List TTenant) (at1 : Int) (i : Nat) => [(0,.obj [pS 1 false encI L,pN ap]),(1,.obj [pI 0,PV.ref 2 0 none]),(2,oB true 5 eTenant ts),(3,.obj [pI 0,pNil])]) (fun (ap : Nat) (ts : List TTenant) (at1 : Int) (i : Nat) => (1 + tNext L a 4).toNat - i) (tStep L (tStep L a 4) 5) (([] : List TTenant)) (tNext L (tStep L a 4) 5) (0) ?_ ⟨[(0,0),(1,2),(2,3),(3,1)],by rw [hk]; decide,⟨⟨_,rfl,rfl,rfl⟩,⟨_,rfl,rfl,rfl⟩,⟨_,rfl,rfl,rfl⟩,⟨_,rfl,rfl,rfl⟩,⟨_,rfl,rfl,rfl⟩,⟨_,rfl,rfl,rfl⟩,trivial⟩,⟨⟨_,_,rfl,rfl,rfl,rfl⟩,⟨_,_,rfl,rfl,rfl,rfl⟩,⟨_,_,rfl,rfl,rfl,rfl⟩,⟨_,_,rfl,rfl,rfl,rfl⟩,trivial⟩,by rw [hk]; decide⟩ ?_
 · exact ⟨by omega,rfl,by simp,by omega,by omega⟩
 ·intro ap ts at1 i hI
  obtain ⟨hi,htl,hw,hat0,hat⟩ := hI
  refine w_seq (w_seq (w_R (qm hnt rfl rfl (qm hnt rfl rfl (qo hnt rfl (s_lss rfl rfl ?_))))))
  refine r_end (q_then (w_if rfl (fun c1 => ?_) (fun c1 => ?_)))
  ·try simp only [sB] at c1
   refine w_skip (q_then (w_seq (w_block (w_seq (w_R ?_)))))
   refine qm hnt rfl rfl (qo hnt rfl (s_callX (r2 := pI (tNext L ap 3)) (nx1 := 4) (H2 := [(0,.obj [pS 1 false encI L,pN ap]),(1,.obj [pI 0,PV.ref 2 0 none]),(2,oB true 5 eTenant ts),(3,.obj [pI 0,pNil])]) (H3 := [(0,.obj [pS 1 false encI L,pN (tStep L ap 3)]),(1,.obj [pI 0,PV.ref 2 0 none]),(2,oB true 5 eTenant ts),(3,.obj [pI 0,pNil])]) [0] [.obj [pS 1 false encI L,pN ap]] rfl rfl rfl (handed_of (by decide) ⟨rfl,trivial⟩) rfl rfl rfl rfl rfl rfl (w_burgagekeep_Tape_Next L false ap 3 (by omega) (by omega)) rfl (dist_of rfl) rfl rfl rfl rfl ?_))
   have hb21 := tNext_lt L ap (n := 3) (by decide)
   refine qo hnt rfl (s_addi (r := 1 + (tNext L ap 3)) rfl rfl rfl (by omega) ?_)
   refine qm hnt rfl rfl (qo hnt rfl (s_addi (r := (1 + (tNext L ap 3)) + ((i : Nat) : Int)) rfl rfl rfl (by omega) ?_))
   refine qm hnt rfl rfl (qo hnt rfl (s_callX (r2 := pI (tNext L (tStep L ap 3) 2)) (nx1 := 4) (H2 := [(0,.obj [pS 1 false encI L,pN (tStep L ap 3)]),(1,.obj [pI 0,PV.ref 2 0 none]),(2,oB true 5 eTenant ts),(3,.obj [pI 0,pNil])]) (H3 := [(0,.obj [pS 1 false encI L,pN (tStep L (tStep L ap 3) 2)]),(1,.obj [pI 0,PV.ref 2 0 none]),(2,oB true 5 eTenant ts),(3,.obj [pI 0,pNil])]) [0] [.obj [pS 1 false encI L,pN (tStep L ap 3)]] rfl rfl rfl (handed_of (by decide) ⟨rfl,trivial⟩) rfl rfl rfl rfl rfl rfl (w_burgagekeep_Tape_Next L false (tStep L ap 3) 2 (by omega) (by omega)) rfl (dist_of rfl) rfl rfl rfl rfl ?_))
   have hb26 := tNext_lt L (tStep L ap 3) (n := 2) (by decide)
   refine qo hnt rfl (s_conv tab_3 tab_75 rfl rfl rfl ?_)
   refine qo hnt rfl (s_shl rfl rfl (by decide) ?_)
   refine qo hnt rfl (s_or rfl rfl ?_)
   refine qm hnt rfl rfl (qo hnt rfl (s_callX (r2 := pI (tNext L (tStep L (tStep L ap 3) 2) 4)) (nx1 := 4) (H2 := [(0,.obj [pS 1 false encI L,pN (tStep L (tStep L ap 3) 2)]),(1,.obj [pI 0,PV.ref 2 0 none]),(2,oB true 5 eTenant ts),(3,.obj [pI 0,pNil])]) (H3 := [(0,.obj [pS 1 false encI L,pN (tStep L (tStep L (tStep L ap 3) 2) 4)]),(1,.obj [pI 0,PV.ref 2 0 none]),(2,oB true 5 eTenant ts),(3,.obj [pI 0,pNil])]) [0] [.obj [pS 1 false encI L,pN (tStep L (tStep L ap 3) 2)]] rfl rfl rfl (handed_of (by decide) ⟨rfl,trivial⟩) rfl rfl rfl rfl rfl rfl (w_burgagekeep_Tape_Next L false (tStep L (tStep L ap 3) 2) 4 (by omega) (by omega)) rfl (dist_of rfl) rfl rfl rfl rfl ?_))
   have hb31 := tNext_lt L (tStep L (tStep L ap 3) 2) (n := 4) (by decide)
   refine qo hnt rfl (s_addi (r := 1 + (tNext L (tStep L (tStep L ap 3) 2) 4)) rfl rfl rfl (by omega) ?_)
   refine qm hnt rfl rfl (qm hnt rfl rfl (qo hnt rfl (s_callX2 (p := fun (q1 : List TWindow) (b1 : Nat) => WinsOk q1) (r2 := fun q1 b1 => pS 4 false eWindow q1) (nx1 := 4) (H2 := [(0,.obj [pS 1 false encI L,pN (tStep L (tStep L (tStep L ap 3) 2) 4)]),(1,.obj [pI 0,PV.ref 2 0 none]),(2,oB true 5 eTenant ts),(3,.obj [pI 0,pNil])]) (H3 := fun q1 b1 => [(0,.obj [pS 1 false encI L,pN b1]),(1,.obj [pI 0,PV.ref 2 0 none]),(2,oB true 5 eTenant ts),(3,.obj [pI 0,pNil])]) [0] [.obj [pS 1 false encI L,pN (tStep L (tStep L (tStep L ap 3) 2) 4)]] rfl rfl rfl (handed_of (by decide) ⟨rfl,trivial⟩) rfl rfl rfl rfl rfl rfl (w_burgagekeep_Tape_windows L false (tStep L (tStep L (tStep L ap 3) 2) 4) i (by omega) (by omega)) (fun q1 b1 => rfl) (fun q1 b1 => dist_of rfl) (fun q1 b1 => rfl) (fun q1 b1 => rfl) rfl (fun q1 b1 => rfl) (fun q1 b1 hq1 => ?_))))
   refine qo hnt rfl (s_build tab_78 rfl rfl (b_cons rfl tab_3 rfl rfl rfl (Nat.le_of_ble_eq_true rfl) (b_cons rfl tab_75 rfl rfl rfl (Nat.le_of_ble_eq_true rfl) (b_cons rfl tab_3 rfl rfl rfl (Nat.le_of_ble_eq_true rfl) (b_cons rfl tab_22 rfl rfl rfl (Nat.le_of_ble_eq_true rfl) (b_nilN (cs' := [pI ((1 + (tNext L ap 3)) + ((i : Nat) : Int)),pK .u32 (bitI .or .u32 12812798 (IntKind.u32.wrap ((IntKind.u32.wrap (tNext L (tStep L ap 3) 2)) * 2 ^ min (Int.toNat 9) IntKind.u32.bits))),pI (1 + (tNext L (tStep L (tStep L ap 3) 2) 4)),pS 4 false eWindow q1,pNil]) rfl ?_))))))
   refine qo hnt rfl (s_alloc tab_78 ?_)
   refine qo hnt rfl (s_store_ptr tab_78 rfl rfl rfl rfl rfl (Nat.le_of_ble_eq_true rfl) ?_)
   refine r_set [(0,PV.ptr 0 0),(2,PV.ptr 3 0),(3,pI (1 + (tNext L a 4))),(4,PV.ptr 1 0),(5,pI at1),(6,pN i),(7,PV.ptr 4 0)] [(4,.obj [pI ((1 + (tNext L ap 3)) + ((i : Nat) : Int)),pK .u32 (bitI .or .u32 12812798 (IntKind.u32.wrap ((IntKind.u32.wrap (tNext L (tStep L ap 3) 2)) * 2 ^ min (Int.toNat 9) IntKind.u32.bits))),pI (1 + (tNext L (tStep L (tStep L ap 3) 2) 4)),pS 4 false eWindow q1,pNil]),(0,.obj [pS 1 false encI L,pN b1]),(1,.obj [pI 0,PV.ref 2 0 none]),(2,oB true 5 eTenant ts),(3,.obj [pI 0,pNil])] 5 ⟨rfl,rfl,rfl,rfl,rfl,rfl,rfl,trivial⟩ rfl rfl (r_end (q_then (join2 (fun (a2 : Nat) (fu : Int) => True) (fun (a2 : Nat) (fu : Int) => [(0,PV.ptr 0 0),(2,PV.ptr 2 0),(3,pI (1 + (tNext L a 4))),(4,PV.ptr 3 0),(5,pI at1),(6,pN i),(7,PV.ptr 1 0)]) 5 (fun (a2 : Nat) (fu : Int) => [(0,.obj [pS 1 false encI L,pN a2]),(1,.obj [pI ((1 + (tNext L ap 3)) + ((i : Nat) : Int)),pK .u32 fu,pI (1 + (tNext L (tStep L (tStep L ap 3) 2) 4)),pS 4 false eWindow q1,pNil]),(2,.obj [pI 0,pNil]),(3,.obj [pI 0,PV.ref 4 0 none]),(4,oB true 5 eTenant ts)]) ?_ ?_)))
   ·refine w_seq (w_R (qm hnt rfl rfl (qo hnt rfl (s_callX (r2 := pI (tNext L b1 5)) (nx1 := 5) (H2 := [(4,.obj [pI ((1 + (tNext L ap 3)) + ((i : Nat) : Int)),pK .u32 (bitI .or .u32 12812798 (IntKind.u32.wrap ((IntKind.u32.wrap (tNext L (tStep L ap 3) 2)) * 2 ^ min (Int.toNat 9) IntKind.u32.bits))),pI (1 + (tNext L (tStep L (tStep L ap 3) 2) 4)),pS 4 false eWindow q1,pNil]),(0,.obj [pS 1 false encI L,pN b1]),(1,.obj [pI 0,PV.ref 2 0 none]),(2,oB true 5 eTenant ts),(3,.obj [pI 0,pNil])]) (H3 := [(0,.obj [pS 1 false encI L,pN (tStep L b1 5)]),(4,.obj [pI ((1 + (tNext L ap 3)) + ((i : Nat) : Int)),pK .u32 (bitI .or .u32 12812798 (IntKind.u32.wrap ((IntKind.u32.wrap (tNext L (tStep L ap 3) 2)) * 2 ^ min (Int.toNat 9) IntKind.u32.bits))),pI (1 + (tNext L (tStep L (tStep L ap 3) 2) 4)),pS 4 false eWindow q1,pNil]),(1,.obj [pI 0,PV.ref 2 0 none]),(2,oB true 5 eTenant ts),(3,.obj [pI 0,pNil])]) [0] [.obj [pS 1 false encI L,pN b1]] rfl rfl rfl (handed_of (by decide) ⟨rfl,trivial⟩) rfl rfl rfl rfl rfl rfl (w_burgagekeep_Tape_Next L false b1 5 (by omega) (by omega)) rfl (dist_of rfl) rfl rfl rfl rfl ?_))))
    refine qo hnt rfl (s_eql rfl rfl ?_)
    refine r_set [(0,PV.ptr 0 0),(2,PV.ptr 3 0),(3,pI (1 + (tNext L a 4))),(4,PV.ptr 1 0),(5,pI at1),(6,pN i),(7,PV.ptr 4 0),(39,pB (decide (tNext L b1 5 = 0)))] [(0,.obj [pS 1 false encI L,pN (tStep L b1 5)]),(4,.obj [pI ((1 + (tNext L ap 3)) + ((i : Nat) : Int)),pK .u32 (bitI .or .u32 12812798 (IntKind.u32.wrap ((IntKind.u32.wrap (tNext L (tStep L ap 3) 2)) * 2 ^ min (Int.toNat 9) IntKind.u32.bits))),pI (1 + (tNext L (tStep L (tStep L ap 3) 2) 4)),pS 4 false eWindow q1,pNil]),(1,.obj [pI 0,PV.ref 2 0 none]),(2,oB true 5 eTenant ts),(3,.obj [pI 0,pNil])] 5 ⟨rfl,rfl,rfl,rfl,rfl,rfl,rfl,rfl,trivial⟩ rfl rfl (r_end (q_then (w_if rfl (fun c2 => ?_) (fun c2 => ?_))))
    ·try simp only [sB] at c2
     refine w_R (qm hnt rfl rfl (qo hnt rfl (s_callX (r2 := pI (tNext L (tStep L b1 5) 24)) (nx1 := 5) (H2 := [(0,.obj [pS 1 false encI L,pN (tStep L b1 5)]),(4,.obj [pI ((1 + (tNext L ap 3)) + ((i : Nat) : Int)),pK .u32 (bitI .or .u32 12812798 (IntKind.u32.wrap ((IntKind.u32.wrap (tNext L (tStep L ap 3) 2)) * 2 ^ min (Int.toNat 9) IntKind.u32.bits))),pI (1 + (tNext L (tStep L (tStep L ap 3) 2) 4)),pS 4 false eWindow q1,pNil]),(1,.obj [pI 0,PV.ref 2 0 none]),(2,oB true 5 eTenant ts),(3,.obj [pI 0,pNil])]) (H3 := [(0,.obj [pS 1 false encI L,pN (tStep L (tStep L b1 5) 24)]),(4,.obj [pI ((1 + (tNext L ap 3)) + ((i : Nat) : Int)),pK .u32 (bitI .or .u32 12812798 (IntKind.u32.wrap ((IntKind.u32.wrap (tNext L (tStep L ap 3) 2)) * 2 ^ min (Int.toNat 9) IntKind.u32.bits))),pI (1 + (tNext L (tStep L (tStep L ap 3) 2) 4)),pS 4 false eWindow q1,pNil]),(1,.obj [pI 0,PV.ref 2 0 none]),(2,oB true 5 eTenant ts),(3,.obj [pI 0,pNil])]) [0] [.obj [pS 1 false encI L,pN (tStep L b1 5)]] rfl rfl rfl (handed_of (by decide) ⟨rfl,trivial⟩) rfl rfl rfl rfl rfl rfl (w_burgagekeep_Tape_Next L false (tStep L b1 5) 24 (by omega) (by omega)) rfl (dist_of rfl) rfl rfl rfl rfl ?_)))
     have hb41 := tNext_lt L (tStep L b1 5) (n := 24) (by decide)
     refine qo hnt rfl (s_conv tab_3 tab_62 rfl rfl rfl ?_)
     refine qo hnt rfl (s_shl rfl rfl (by exact wrapU_nn rfl _) ?_)
     refine qo hnt rfl (s_or rfl rfl ?_)
     refine qo hnt rfl (s_fa_ptr tab_78 rfl rfl tab_75 (by decide) rfl ?_)
     refine qo hnt rfl (s_store_ptr tab_75 rfl rfl rfl rfl rfl (Nat.le_of_ble_eq_true rfl) ?_)
     refine r_end (q_then (⟨(tStep L (tStep L b1 5) 24),(bitI .or .u32 65608 (IntKind.u32.wrap (1 * 2 ^ min (Int.toNat (IntKind.u64.wrap (tNext L (tStep L b1 5) 24))) IntKind.u32.bits))), ?_,⟨[(0,0),(1,4),(2,3),(3,1),(4,2)],by rw [hk]; decide,⟨⟨_,rfl,rfl,rfl⟩,⟨_,rfl,rfl,rfl⟩,⟨_,rfl,rfl,rfl⟩,⟨_,rfl,rfl,rfl⟩,⟨_,rfl,rfl,rfl⟩,⟨_,rfl,rfl,rfl⟩,⟨_,rfl,rfl,rfl⟩,trivial⟩,⟨⟨_,_,rfl,rfl,rfl,rfl⟩,⟨_,_,rfl,rfl,rfl,rfl⟩,⟨_,_,rfl,rfl,rfl,rfl⟩,⟨_,_,rfl,rfl,rfl,rfl⟩,⟨_,_,rfl,rfl,rfl,rfl⟩,trivial⟩,by rw [hk]; decide⟩⟩))
     trivial
    try simp only [sB] at c2
    refine w_skip (q_then (⟨(tStep L b1 5),(bitI .or .u32 12812798 (IntKind.u32.wrap ((IntKind.u32.wrap (tNext L (tStep L ap 3) 2)) * 2 ^ min (Int.toNat 9) IntKind.u32.bits))), ?_,⟨[(0,0),(1,4),(2,3),(3,1),(4,2)],by rw [hk]; decide,⟨⟨_,rfl,rfl,rfl⟩,⟨_,rfl,rfl,rfl⟩,⟨_,rfl,rfl,rfl⟩,⟨_,rfl,rfl,rfl⟩,⟨_,rfl,rfl,rfl⟩,⟨_,rfl,rfl,rfl⟩,⟨_,rfl,rfl,rfl⟩,trivial⟩,⟨⟨_,_,rfl,rfl,rfl,rfl⟩,⟨_,_,rfl,rfl,rfl,rfl⟩,⟨_,_,rfl,rfl,rfl,rfl⟩,⟨_,_,rfl,rfl,rfl,rfl⟩,⟨_,_,rfl,rfl,rfl,rfl⟩,trivial⟩,by rw [hk]; decide⟩⟩))
    trivial
   intro a2 fu hJ
   refine w_seq (w_seq (w_R (qm hnt rfl rfl (qo hnt rfl (s_callX (r2 := pI (tNext L a2 2)) (nx1 := 5) (H2 := [(0,.obj [pS 1 false encI L,pN a2]),(1,.obj [pI ((1 + (tNext L ap 3)) + ((i : Nat) : Int)),pK .u32 fu,pI (1 + (tNext L (tStep L (tStep L ap 3) 2) 4)),pS 4 false eWindow q1,pNil]),(2,.obj [pI 0,pNil]),(3,.obj [pI 0,PV.ref 4 0 none]),(4,oB true 5 eTenant ts)]) (H3 := [(0,.obj [pS 1 false encI L,pN (tStep L a2 2)]),(1,.obj [pI ((1 + (tNext L ap 3)) + ((i : Nat) : Int)),pK .u32 fu,pI (1 + (tNext L (tStep L (tStep L ap 3) 2) 4)),pS 4 false eWindow q1,pNil]),(2,.obj [pI 0,pNil]),(3,.obj [pI 0,PV.ref 4 0 none]),(4,oB true 5 eTenant ts)]) [0] [.obj [pS 1 false encI L,pN a2]] rfl rfl rfl (handed_of (by decide) ⟨rfl,trivial⟩) rfl rfl rfl rfl rfl rfl (w_burgagekeep_Tape_Next L false a2 2 (by omega) (by omega)) rfl (dist_of rfl) rfl rfl rfl rfl ?_)))))
   have hb47 := tNext_lt L a2 (n := 2) (by decide)
   refine qa hnt rfl rfl (r_set [(0,PV.ptr 0 0),(2,PV.ptr 2 0),(3,pI (1 + (tNext L a 4))),(4,PV.ptr 3 0),(5,pI at1),(6,pN i),(7,PV.ptr 1 0),(8,pI (tNext L a2 2))] [(0,.obj [pS 1 false encI L,pN (tStep L a2 2)]),(1,.obj [pI ((1 + (tNext L ap 3)) + ((i : Nat) : Int)),pK .u32 fu,pI (1 + (tNext L (tStep L (tStep L ap 3) 2) 4)),pS 4 false eWindow q1,pNil]),(2,.obj [pI 0,pNil]),(3,.obj [pI 0,PV.ref 4 0 none]),(4,oB true 5 eTenant ts)] 5 ⟨rfl,rfl,rfl,rfl,rfl,rfl,rfl,rfl,trivial⟩ rfl rfl (r_end (q_then (w_block (w_adoptC (n := 1) (j := 4) (sz := 2) rfl rfl rfl ?_)))))
   refine loop4 (fun (a3 : Nat) (at2 : Int) (sl : List TSlot) (kk : Int) => 0 ≤ at2 ∧ at2 + 86 * (kk + 1) ≤ at1 + 172 ∧ -1 ≤ kk ∧ (sl.length : Int) + kk ≤ 1) (fun (a3 : Nat) (at2 : Int) (sl : List TSlot) (kk : Int) => [(0,PV.ptr 0 0),(2,PV.ptr 3 0),(3,pI (1 + (tNext L a 4))),(4,PV.ptr 4 0),(5,pI at2),(6,pN i),(7,PV.ptr 1 0),(8,pI kk)]) 6 (fun (a3 : Nat) (at2 : Int) (sl : List TSlot) (kk : Int) => [(0,.obj [pS 1 false encI L,pN a3]),(1,.obj [pI ((1 + (tNext L ap 3)) + ((i : Nat) : Int)),pK .u32 fu,pI (1 + (tNext L (tStep L (tStep L ap 3) 2) 4)),pS 4 false eWindow q1,PV.ref 2 0 none]),(2,oB true 2 eSlot sl),(3,.obj [pI 0,pNil]),(4,.obj [pI 0,PV.ref 5 0 none]),(5,oB true 5 eTenant ts)]) (fun (a3 : Nat) (at2 : Int) (sl : List TSlot) (kk : Int) => (kk + 1).toNat) (tStep L a2 2) (at1) (([] : List TSlot)) (tNext L a2 2) ?_ ⟨[(0,0),(1,1),(2,5),(3,2),(4,3),(5,4)],by rw [hk]; decide,⟨⟨_,rfl,rfl,rfl⟩,⟨_,rfl,rfl,rfl⟩,⟨_,rfl,rfl,rfl⟩,⟨_,rfl,rfl,rfl⟩,⟨_,rfl,rfl,rfl⟩,⟨_,rfl,rfl,rfl⟩,⟨_,rfl,rfl,rfl⟩,⟨_,rfl,rfl,rfl⟩,trivial⟩,⟨⟨_,_,rfl,rfl,rfl,rfl⟩,⟨_,_,rfl,rfl,rfl,rfl⟩,⟨_,_,rfl,rfl,rfl,rfl⟩,⟨_,_,rfl,rfl,rfl,rfl⟩,⟨_,_,rfl,rfl,rfl,rfl⟩,⟨_,_,rfl,rfl,rfl,rfl⟩,trivial⟩,by rw [hk]; decide⟩ ?_
   · exact ⟨by omega,by omega,by omega,by simp; omega⟩
   ·intro a3 at2 sl kk hK
    obtain ⟨ha20,ha2,hkk,hsl⟩ := hK
    refine w_seq (w_seq (w_R (qm hnt rfl rfl (qo hnt rfl (s_geq rfl rfl ?_)))))
    refine r_end (q_then (w_if rfl (fun c3 => ?_) (fun c3 => ?_)))
    ·try simp only [sB] at c3
     refine w_skip (q_then (w_seq (w_block (w_seq (w_R ?_)))))
     refine qm hnt rfl rfl (qm hnt rfl rfl (qo hnt rfl (s_callX (r2 := pI (tNext L a3 9)) (nx1 := 6) (H2 := [(0,.obj [pS 1 false encI L,pN a3]),(1,.obj [pI ((1 + (tNext L ap 3)) + ((i : Nat) : Int)),pK .u32 fu,pI (1 + (tNext L (tStep L (tStep L ap 3) 2) 4)),pS 4 false eWindow q1,PV.ref 2 0 none]),(2,oB true 2 eSlot sl),(3,.obj [pI 0,pNil]),(4,.obj [pI 0,PV.ref 5 0 none]),(5,oB true 5 eTenant ts)]) (H3 := [(0,.obj [pS 1 false encI L,pN (tStep L a3 9)]),(1,.obj [pI ((1 + (tNext L ap 3)) + ((i : Nat) : Int)),pK .u32 fu,pI (1 + (tNext L (tStep L (tStep L ap 3) 2) 4)),pS 4 false eWindow q1,PV.ref 2 0 none]),(2,oB true 2 eSlot sl),(3,.obj [pI 0,pNil]),(4,.obj [pI 0,PV.ref 5 0 none]),(5,oB true 5 eTenant ts)]) [0] [.obj [pS 1 false encI L,pN a3]] rfl rfl rfl (handed_of (by decide) ⟨rfl,trivial⟩) rfl rfl rfl rfl rfl rfl (w_burgagekeep_Tape_Next L false a3 9 (by omega) (by omega)) rfl (dist_of rfl) rfl rfl rfl rfl ?_)))
     have hb54 := tNext_lt L a3 (n := 9) (by decide)
     refine qo hnt rfl (s_addi (r := 72 + (tNext L a3 9)) rfl rfl rfl (by omega) ?_)
     refine qo hnt rfl (s_build tab_117 rfl rfl (b_cons rfl tab_3 rfl rfl rfl (Nat.le_of_ble_eq_true rfl) (b_cons rfl tab_3 rfl rfl rfl (Nat.le_of_ble_eq_true rfl) (b_nil ?_))))
     refine qo hnt rfl (s_alloc tab_117 ?_)
     refine qo hnt rfl (s_store_ptr tab_117 rfl rfl rfl rfl rfl (Nat.le_of_ble_eq_true rfl) ?_)
     refine r_set [(0,PV.ptr 0 0),(2,PV.ptr 3 0),(3,pI (1 + (tNext L a 4))),(4,PV.ptr 4 0),(6,pN i),(7,PV.ptr 1 0),(8,pI kk),(9,PV.ptr 6 0)] [(6,.obj [pI at2,pI (72 + (tNext L a3 9))]),(0,.obj [pS 1 false encI L,pN (tStep L a3 9)]),(1,.obj [pI ((1 + (tNext L ap 3)) + ((i : Nat) : Int)),pK .u32 fu,pI (1 + (tNext L (tStep L (tStep L ap 3) 2) 4)),pS 4 false eWindow q1,PV.ref 2 0 none]),(2,oB true 2 eSlot sl),(3,.obj [pI 0,pNil]),(4,.obj [pI 0,PV.ref 5 0 none]),(5,oB true 5 eTenant ts)] 7 ⟨rfl,rfl,rfl,rfl,rfl,rfl,rfl,rfl,trivial⟩ rfl rfl (r_end (q_then (w_seq (W_drawn tabOk mixed hnt [[],[0],[],[2],[0,1,2,3],[],[5],[0,1,2,3,4,5,6],(.range 8)] (by kernel_rfl) (d_op ?_)))))
     refine x_run0 [(9,PV.ptr 6 0)] [] rfl rfl rfl rfl (s_fa_ptr tab_117 rfl rfl tab_3 (by decide) rfl ⟨rfl,rfl,rfl⟩) (d_op (xL [(57,PV.ptr 6 0)] [0] [(6,.obj [pI at2,pI (72 + (tNext L a3 9))])] rfl rfl rfl rfl rfl (s_load_ptr1 tab_3 rfl rfl rfl rfl rfl ⟨rfl,rfl,rfl⟩) ⟨rfl,trivial⟩ rfl (d_op (x_run0 [(9,PV.ptr 6 0)] [] rfl rfl rfl rfl (s_fa_ptr tab_117 rfl rfl tab_3 (by decide) rfl ⟨rfl,rfl,rfl⟩) (d_op ?_)))))
     refine xL [(59,PV.ptr 6 1)] [2] [(6,.obj [pI at2,pI (72 + (tNext L a3 9))])] rfl rfl rfl rfl rfl (s_load_ptr1 tab_3 rfl rfl rfl rfl rfl ⟨rfl,rfl,rfl⟩) ⟨rfl,trivial⟩ rfl (d_op (x_run0 [(58,pI at2),(60,pI (72 + (tNext L a3 9)))] [0,1,2,3] rfl rfl rfl rfl (s_addi (r := at2 + (72 + (tNext L a3 9))) rfl rfl rfl (by omega) ⟨rfl,rfl,rfl⟩) (d_op (x_run0 [(0,PV.ptr 0 0)] [] rfl rfl rfl rfl (s_move rfl ⟨rfl,rfl,rfl⟩) (d_op ?_)))))
     refine xT [(62,PV.ptr 0 0)] [5] [(0,.obj [pS 1 false encI L,pN (tStep L a3 9)])] [(0,.obj [pS 1 false encI L,pN (tStep L (tStep L a3 9) 7)])] [(6,.obj [pI at2,pI (72 + (tNext L a3 9))]),(1,.obj [pI ((1 + (tNext L ap 3)) + ((i : Nat) : Int)),pK .u32 fu,pI (1 + (tNext L (tStep L (tStep L ap 3) 2) 4)),pS 4 false eWindow q1,PV.ref 2 0 none]),(2,oB true 2 eSlot sl),(3,.obj [pI 0,pNil]),(4,.obj [pI 0,PV.ref 5 0 none]),(5,oB true 5 eTenant ts)] rfl rfl rfl rfl rfl (s_callX (r2 := pI (tNext L (tStep L a3 9) 7)) (nx1 := 7) (H2 := [(0,.obj [pS 1 false encI L,pN (tStep L a3 9)])]) (H3 := [(0,.obj [pS 1 false encI L,pN (tStep L (tStep L a3 9) 7)])]) [0] [.obj [pS 1 false encI L,pN (tStep L a3 9)]] rfl rfl rfl (handed_of (by decide) ⟨rfl,trivial⟩) rfl rfl rfl rfl rfl rfl (w_burgagekeep_Tape_Next L false (tStep L a3 9) 7 (by omega) (by omega)) rfl (dist_of rfl) rfl rfl rfl rfl ⟨rfl,rfl,rfl⟩) rfl rfl ?_
     have hb63 := tNext_lt L (tStep L a3 9) (n := 7) (by decide)
     refine d_op (x_run0 [(61,pI (at2 + (72 + (tNext L a3 9)))),(63,pI (tNext L (tStep L a3 9) 7))] [0,1,2,3,4,5,6] rfl rfl rfl rfl (s_addi (r := (at2 + (72 + (tNext L a3 9))) + (tNext L (tStep L a3 9) 7)) rfl rfl rfl (by omega) ⟨rfl,rfl,rfl⟩) (d_op (x_run0 [(64,pI ((at2 + (72 + (tNext L a3 9))) + (tNext L (tStep L a3 9) 7)))] (.range 8) rfl rfl rfl rfl (s_assign rfl ⟨rfl,rfl,rfl⟩) (d_end ⟨by kernel_rfl, ?_⟩))))
     refine q_then (w_R (qo hnt rfl (s_fa_ptr tab_78 rfl rfl tab_76 (by decide) rfl ?_)))
     refine qo hnt rfl (s_load_ptr1 tab_76 rfl rfl rfl rfl rfl ?_)
     refine qo hnt rfl (s_load_ptr tab_117 rfl rfl rfl (Nat.le_of_ble_eq_true rfl) ?_)
     refine qo hnt rfl (s_mkM (f := eSlot) [(⟨at2,72 + (tNext L a3 9)⟩ : TSlot)] tab_76 rfl tab_117 ⟨rfl,by decide⟩ (by decide) rfl rfl rfl rfl ?_)
     refine qo hnt rfl (s_appR0 (f := eSlot) (l := sl) (xs := [(⟨at2,72 + (tNext L a3 9)⟩ : TSlot)]) tab_76 rfl tab_117 ⟨rfl,by decide,by decide⟩ (srcM tab_76 rfl (hM_ref0 (f := eSlot) rfl rfl)) rfl rfl (by (simp; omega)) ?_)
     refine qo hnt rfl (s_fa_ptr tab_78 rfl rfl tab_76 (by decide) rfl ?_)
     refine qo hnt rfl (s_store_ptr tab_76 rfl rfl rfl rfl rfl (Nat.le_of_ble_eq_true rfl) ?_)
     refine r_set [(0,PV.ptr 0 0),(2,PV.ptr 3 0),(3,pI (1 + (tNext L a 4))),(4,PV.ptr 4 0),(5,pI ((at2 + (72 + (tNext L a3 9))) + (tNext L (tStep L a3 9) 7))),(6,pN i),(7,PV.ptr 1 0),(8,pI kk)] [(1,.obj [pI ((1 + (tNext L ap 3)) + ((i : Nat) : Int)),pK .u32 fu,pI (1 + (tNext L (tStep L (tStep L ap 3) 2) 4)),pS 4 false eWindow q1,PV.ref 8 0 none]),(8,oB true 2 eSlot (sl ++ [(⟨at2,72 + (tNext L a3 9)⟩ : TSlot)])),(7,oB true 2 eSlot [(⟨at2,72 + (tNext L a3 9)⟩ : TSlot)]),(0,.obj [pS 1 false encI L,pN (tStep L (tStep L a3 9) 7)]),(6,.obj [pI at2,pI (72 + (tNext L a3 9))]),(3,.obj [pI 0,pNil]),(4,.obj [pI 0,PV.ref 5 0 none]),(5,oB true 5 eTenant ts)] 9 ⟨rfl,rfl,rfl,rfl,rfl,rfl,rfl,rfl,trivial⟩ rfl rfl (r_end (q_block (q_then (w_R (qm hnt rfl rfl ?_)))))
     refine qo hnt rfl (s_subi (r := kk - 1) rfl rfl rfl (by omega) ?_)
     refine qa hnt rfl rfl (r_end (q_then (⟨(tStep L (tStep L a3 9) 7),((at2 + (72 + (tNext L a3 9))) + (tNext L (tStep L a3 9) 7)),(sl ++ [(⟨at2,72 + (tNext L a3 9)⟩ : TSlot)]),(kk - 1), ?_, ?_,⟨[(0,0),(1,1),(2,8),(3,3),(4,4),(5,5)],by rw [hk]; decide,⟨⟨_,rfl,rfl,rfl⟩,⟨_,rfl,rfl,rfl⟩,⟨_,rfl,rfl,rfl⟩,⟨_,rfl,rfl,rfl⟩,⟨_,rfl,rfl,rfl⟩,⟨_,rfl,rfl,rfl⟩,⟨_,rfl,rfl,rfl⟩,⟨_,rfl,rfl,rfl⟩,trivial⟩,⟨⟨_,_,rfl,rfl,rfl,rfl⟩,⟨_,_,rfl,rfl,rfl,rfl⟩,⟨_,_,rfl,rfl,rfl,rfl⟩,⟨_,_,rfl,rfl,rfl,rfl⟩,⟨_,_,rfl,rfl,rfl,rfl⟩,⟨_,_,rfl,rfl,rfl,rfl⟩,trivial⟩,by rw [hk]; decide⟩⟩)))
     ·exact ⟨by omega,by omega,by omega,by simp; omega⟩
     · omega
    try simp only [sB] at c3
    refine w_exit (q_then_exit (q_then_exit (q_block_exit (q_then (w_R ?_)))))
    refine qo hnt rfl (s_fa_ptr tab_73 rfl rfl tab_71 (by decide) rfl ?_)
    refine qo hnt rfl (s_load_ptr1 tab_71 rfl rfl rfl rfl rfl ?_)
    refine qo hnt rfl (s_load_ptr tab_78 rfl rfl rfl (Nat.le_of_ble_eq_true rfl) ?_)
    refine qo hnt rfl (s_mkM (f := eTenant) [(⟨(1 + (tNext L ap 3)) + ((i : Nat) : Int),fu,1 + (tNext L (tStep L (tStep L ap 3) 2) 4),q1,sl⟩ : TTenant)] tab_71 rfl tab_78 ⟨rfl,by decide⟩ (by decide) rfl rfl rfl rfl ?_)
    refine qo hnt rfl (s_appR0 (f := eTenant) (l := ts) (xs := [(⟨(1 + (tNext L ap 3)) + ((i : Nat) : Int),fu,1 + (tNext L (tStep L (tStep L ap 3) 2) 4),q1,sl⟩ : TTenant)]) tab_71 rfl tab_78 ⟨rfl,by decide,by decide⟩ (srcM tab_71 rfl (hM_ref0 (f := eTenant) rfl rfl)) rfl rfl (by (simp; omega)) ?_)
    refine qo hnt rfl (s_fa_ptr tab_73 rfl rfl tab_71 (by decide) rfl ?_)
    refine qo hnt rfl (s_store_ptr tab_71 rfl rfl rfl rfl rfl (Nat.le_of_ble_eq_true rfl) ?_)
    refine r_set [(0,PV.ptr 0 0),(2,PV.ptr 3 0),(3,pI (1 + (tNext L a 4))),(4,PV.ptr 4 0),(5,pI at2),(6,pN i)] [(4,.obj [pI 0,PV.ref 7 0 none]),(7,oB true 5 eTenant (ts ++ [(⟨(1 + (tNext L ap 3)) + ((i : Nat) : Int),fu,1 + (tNext L (tStep L (tStep L ap 3) 2) 4),q1,sl⟩ : TTenant)])),(6,oB true 5 eTenant [(⟨(1 + (tNext L ap 3)) + ((i : Nat) : Int),fu,1 + (tNext L (tStep L (tStep L ap 3) 2) 4),q1,sl⟩ : TTenant)]),(2,oB false 2 eSlot sl),(0,.obj [pS 1 false encI L,pN a3]),(1,.obj [pI ((1 + (tNext L ap 3)) + ((i : Nat) : Int)),pK .u32 fu,pI (1 + (tNext L (tStep L (tStep L ap 3) 2) 4)),pS 4 false eWindow q1,PV.ref 2 0 none]),(3,.obj [pI 0,pNil])] 8 ⟨rfl,rfl,rfl,rfl,rfl,rfl,trivial⟩ rfl rfl (r_end (q_block (q_then (w_R (qm hnt rfl rfl ?_)))))
    refine qo hnt rfl (s_addN (a := i) (b := 1) rfl rfl (by omega) (by omega) (by omega) ?_)
    refine qa hnt rfl rfl (r_end (q_then (⟨(a3),(ts ++ [(⟨(1 + (tNext L ap 3)) + ((i : Nat) : Int),fu,1 + (tNext L (tStep L (tStep L ap 3) 2) 4),q1,sl⟩ : TTenant)]),(at2),(i + 1), ?_, ?_,⟨[(0,0),(1,4),(2,7),(3,3)],by rw [hk]; decide,⟨⟨_,rfl,rfl,rfl⟩,⟨_,rfl,rfl,rfl⟩,⟨_,rfl,rfl,rfl⟩,⟨_,rfl,rfl,rfl⟩,⟨_,rfl,rfl,rfl⟩,⟨_,rfl,rfl,rfl⟩,trivial⟩,⟨⟨_,_,rfl,rfl,rfl,rfl⟩,⟨_,_,rfl,rfl,rfl,rfl⟩,⟨_,_,rfl,rfl,rfl,rfl⟩,⟨_,_,rfl,rfl,rfl,rfl⟩,trivial⟩,by rw [hk]; decide⟩⟩)))
    ·refine ⟨by omega,by simp; omega,fun p hp => ?_,by omega,by omega⟩
     rcases List.mem_append.1 hp with h|h
     · exact hw p h
     · have h := List.mem_singleton.1 h; subst h; exact hq1
    · omega
  try simp only [sB] at c1
  refine w_exit (q_then_exit (q_then_exit (q_block_exit (q_then (w_seq ?_)))))
  refine w_R (qm hnt rfl rfl (qm hnt rfl rfl (qo hnt rfl (s_callX (r2 := pI (tNext L ap 20)) (nx1 := 4) (H2 := [(0,.obj [pS 1 false encI L,pN ap]),(1,.obj [pI 0,PV.ref 2 0 none]),(2,oB true 5 eTenant ts),(3,.obj [pI 0,pNil])]) (H3 := [(0,.obj [pS 1 false encI L,pN (tStep L ap 20)]),(1,.obj [pI 0,PV.ref 2 0 none]),(2,oB true 5 eTenant ts),(3,.obj [pI 0,pNil])]) [0] [.obj [pS 1 false encI L,pN ap]] rfl rfl rfl (handed_of (by decide) ⟨rfl,trivial⟩) rfl rfl rfl rfl rfl rfl (w_burgagekeep_Tape_Next L false ap 20 (by omega) (by omega)) rfl (dist_of rfl) rfl rfl rfl rfl ?_))))
  have hb79 := tNext_lt L ap (n := 20) (by decide)
  refine qo hnt rfl (s_addi (r := at1 + (tNext L ap 20)) rfl rfl rfl (by omega) ?_)
  refine qo hnt rfl (s_fa_ptr tab_73 rfl rfl tab_3 (by decide) rfl ?_)
  refine qo hnt rfl (s_store_ptr tab_3 rfl rfl rfl rfl rfl (Nat.le_of_ble_eq_true rfl) ?_)
  refine r_set [(2,PV.ptr 3 0),(4,PV.ptr 1 0)] [(1,.obj [pI (at1 + (tNext L ap 20)),PV.ref 2 0 none]),(0,.obj [pS 1 false encI L,pN (tStep L ap 20)]),(2,oB true 5 eTenant ts),(3,.obj [pI 0,pNil])] 4 ⟨rfl,rfl,trivial⟩ rfl rfl (r_end (q_then (w_seq (w_R (qo hnt rfl (s_load_ptr tab_73 rfl rfl rfl (Nat.le_of_ble_eq_true rfl) ?_))))))
  refine qo hnt rfl (s_store_ptr tab_73 rfl rfl rfl rfl rfl (Nat.le_of_ble_eq_true rfl) ?_)
  refine r_set [(2,PV.ptr 3 0)] [(3,.obj [pI (at1 + (tNext L ap 20)),PV.ref 2 0 none]),(1,.obj [pI (at1 + (tNext L ap 20)),PV.ref 2 0 none]),(0,.obj [pS 1 false encI L,pN (tStep L ap 20)]),(2,oB true 5 eTenant ts)] 4 ⟨rfl,trivial⟩ rfl rfl (r_end (q_then (w_frzC (n := 3) (j := 1) rfl rfl rfl rfl (w_ret ?_))))
  have hex : TabG (⟨at1 + (tNext L ap 20),ts⟩ : TTable) := by
    exact ⟨⟨by simp only; omega,by simp only; omega⟩,hw⟩
  exact fin_names (nx1 := 1) (H1 := [(0,.obj [pS 1 false encI L,pN (tStep L ap 20)])]) [(0,0)] (ret_cell tab_73 (by decide) rfl rfl (Nat.le_of_ble_eq_true rfl) rfl ret_nil) rfl (by decide) ⟨⟨_,_,rfl,rfl,rfl,rfl⟩,trivial⟩ (by decide) rfl ⟨((⟨at1 + (tNext L ap 20),ts⟩ : TTable)),(tStep L ap 20),hex,rfl,rfl,rfl⟩
end Go.Proofs.Ytljkbpgcglomfaa
set_option linter.unusedVariables false
set_option linter.unusedSimpArgs false
namespace Go.Proofs.Ytljkbpgcglomfaa
open Go Go.Proofs.Ytljkbpgcglomfaa.Pv
def LK : List TWindow := [⟨3,0,100,4⟩,⟨3,4,50,4⟩]
theorem kn_of : (ofL LK 3).map vSp = [⟨0,4⟩,⟨4,4⟩] := by decide
theorem kn_c1 : coverL [⟨0,4⟩,⟨4,4⟩] ⟨2,4⟩ = some [⟨2,2⟩,⟨4,2⟩] := by
  unfold coverL
  rw [if_pos (by decide),covGo_step (i := 0) (x := ⟨0,4⟩) (by decide) (by decide) rfl (by decide),covGo_step (i := 1) (x := ⟨4,4⟩) (by decide) (by decide) rfl (by decide),covGo_end (by decide)]
  rfl
theorem kn_c2 : coverL [⟨0,4⟩,⟨4,4⟩] ⟨6,4⟩ = none := by
  unfold coverL
  rw [if_pos (by decide),covGo_step (i := 1) (x := ⟨4,4⟩) (by decide) (by decide) rfl (by decide),covGo_none (by decide) (by decide)]
  rfl
theorem kn_1 : mapOk LK 3 2 4 = true := by unfold mapOk coverOk; rw [kn_of,kn_c1]; rfl
theorem kn_2 : mapL LK 3 2 4 = [⟨2,102,2⟩,⟨4,50,2⟩] := by unfold mapL covW coverV; rw [kn_of,kn_c1]; decide
theorem kn_3 : mapOk LK 3 6 4 = false := by unfold mapOk coverOk; rw [kn_of,kn_c2]; rfl
theorem kn_4 : mapOk LK 2 0 1 = false := by unfold mapOk coverOk; rw [show (ofL LK 2).map vSp = [] by decide,known_bad]; rfl
theorem covGo_cover (L : List TSpan) (e : Int) : ∀ (n : Nat) (v : Int) (os : List TSpan),(e - v).toNat ≤ n → covGo L e v = some os → ∀ c,v ≤ c → c < e → ∃ p ∈ os,p.at_ ≤ c ∧ c < p.at_ + p.count
  | n,v,os,hn,h,c,hc,he => by
    rw [covGo] at h
    split at h
    · rename_i hv
      split at h
      · cases h
      · rename_i i hi
        split at h
        · rename_i hlt
          simp only [Option.map_eq_some_iff] at h
          obtain ⟨t,h1,rfl⟩ := h
          match n,hn with
          | 0,hn => omega
          | n + 1,hn =>
            by_cases hcc : c < min ((L.getD i sp0).at_ + (L.getD i sp0).count) e
            · exact ⟨_,List.mem_cons_self,hc,by simp only; omega⟩
            · obtain ⟨p,hp,hp2⟩ := covGo_cover L e n _ t (by omega) h1 c (by omega) he
              exact ⟨p,List.mem_cons_of_mem _ hp,hp2⟩
        · cases h
    · cases h; omega
theorem covGo_all (L : List TSpan) (e : Int) : ∀ (n : Nat) (v : Int),(e - v).toNat ≤ n → (∀ c,v ≤ c → c < e → ∃ x ∈ L,x.at_ ≤ c ∧ c < x.at_ + x.count) → (covGo L e v).isSome = true
  | n,v,hn,h => by
    by_cases hv : v < e
    · obtain ⟨x,hx,h1,h2⟩ := h v (by omega) hv
      have hne : ¬ idxI (idxAt L v) < 0 := by
        intro hi
        have := idx_none hi
        unfold idxAt at this
        rw [List.findIdx?_eq_none_iff] at this
        have := this x hx
        simp [h1,h2] at this
      obtain ⟨i,y,hi,_,hy,hy1,hy2⟩ := idx_some hne
      rw [covGo_step hv hi hy hy2]
      match n,hn with
      | 0,hn => omega
      | n + 1,hn =>
        have := covGo_all L e n (min (y.at_ + y.count) e) (by omega) (fun c hc he => h c (by omega) he)
        cases hg : covGo L e (min (y.at_ + y.count) e) with
        | none => rw [hg] at this; cases this
        | some t => rfl
    · rw [covGo_end hv]; rfl
section
variable {l : List TWindow} {s : Int}
def InW (l : List TWindow) (s c : Int) (w : TWindow) : Prop := w ∈ ofL l s ∧ w.virtual ≤ c ∧ c < w.virtual + w.count
theorem mapOk_iff (a n : Int) (ha : 0 ≤ a ∧ a ≤ 1000) (hn : 1 ≤ n ∧ n ≤ 1000) : mapOk l s a n = true ↔ ∀ c,a ≤ c → c < a + n → ∃ w,InW l s c w := by
  have hsp : spOk ⟨a,n⟩ = true ∧ ∀ x ∈ (ofL l s).map vSp,spOk x = true := ⟨(spOk_iff _).2 (by simp only; omega),ofL_sp l s⟩
  have e : mapOk l s a n = (covGo ((ofL l s).map vSp) (a + n) a).isSome := by unfold mapOk coverOk coverL; rw [if_pos hsp]
  rw [e]
  constructor
  · intro h c hc he
    cases hg : covGo ((ofL l s).map vSp) (a + n) a with
    | none => rw [hg] at h; cases h
    | some os =>
      obtain ⟨p,hp,h1,h2⟩ := covGo_cover _ _ _ a os (Nat.le_refl _) hg c hc he
      obtain ⟨_,_,_,i,x,_,hx,h6,h7⟩ := covGo_mem _ _ _ a os (Nat.le_refl _) hg p hp
      rw [List.getElem?_map] at hx
      obtain ⟨w,hw,rfl⟩ := Option.map_eq_some_iff.1 hx
      simp only at h6 h7
      exact ⟨w,List.mem_of_getElem? hw,by omega,by omega⟩
  · intro h
    refine covGo_all _ _ _ a (Nat.le_refl _) fun c hc he => ?_
    obtain ⟨w,hw,h1,h2⟩ := h c hc he
    exact ⟨vSp w,List.mem_map_of_mem hw,h1,h2⟩
theorem WinsOk.one_v (h : WinsOk l) {c : Int} {a b : TWindow} (ha : InW l s c a) (hb : InW l s c b) : a = b := by
  obtain ⟨ha,a1,a2⟩ := ha
  obtain ⟨hb,b1,b2⟩ := hb
  obtain ⟨_,sa,am⟩ := ofL_mem ha
  obtain ⟨_,sb,bm⟩ := ofL_mem hb
  obtain ⟨i,hi⟩ := List.getElem?_of_mem am
  obtain ⟨j,hj⟩ := List.getElem?_of_mem bm
  rcases Nat.lt_trichotomy i j with k|k|k
  · have := h.two k hj hi (by rw [sa,sb]); omega
  · subst k; rw [hi] at hj; cases hj; rfl
  · have := h.two k hi hj (by rw [sa,sb]); omega
theorem WinsOk.one_p (h : WinsOk l) {c : Int} {a b : TWindow} (ha : a ∈ ofL l s) (hb : b ∈ ofL l s) (a1 : a.physical ≤ c ∧ c < a.physical + a.count) (b1 : b.physical ≤ c ∧ c < b.physical + b.count) : a = b := by
  obtain ⟨_,sa,am⟩ := ofL_mem ha
  obtain ⟨_,sb,bm⟩ := ofL_mem hb
  obtain ⟨i,hi⟩ := List.getElem?_of_mem am
  obtain ⟨j,hj⟩ := List.getElem?_of_mem bm
  rcases Nat.lt_trichotomy i j with k|k|k
  · have := h.two k hj hi (by rw [sa,sb]); omega
  · subst k; rw [hi] at hj; cases hj; rfl
  · have := h.two k hi hj (by rw [sa,sb]); omega
theorem WinsOk.map_one (h : WinsOk l) {c : Int} (hc : 0 ≤ c ∧ c ≤ 1000) {w : TWindow} (hw : InW l s c w) : mapL l s c 1 = [⟨c,w.physical + c - w.virtual,1⟩] := by
  obtain ⟨hm,h1,h2⟩ := hw
  have hsp : spOk ⟨c,1⟩ = true ∧ ∀ x ∈ (ofL l s).map vSp,spOk x = true := ⟨(spOk_iff _).2 (by simp only; omega),ofL_sp l s⟩
  have hne : ¬ idxI (idxAt ((ofL l s).map vSp) c) < 0 := by
    intro hi
    have := idx_none hi
    unfold idxAt at this
    rw [List.findIdx?_eq_none_iff] at this
    have := this (vSp w) (List.mem_map_of_mem hm)
    simp [h1,h2] at this
  obtain ⟨i,y,hi,_,hy,hy1,hy2⟩ := idx_some hne
  have hcov : covW l s c 1 = [⟨c,1⟩] := by
    unfold covW coverV coverL
    rw [if_pos hsp,covGo_step (by simp only; omega) hi hy hy2]
    simp only
    rw [show min (y.at_ + y.count) (c + 1) = c + 1 by omega,covGo_end (by omega),show c + 1 - c = 1 by omega]
    rfl
  have hp : (⟨c,1⟩ : TSpan) ∈ covW l s c 1 := by rw [hcov]; exact List.mem_singleton.2 rfl
  obtain ⟨k,u,hu,_,_,_,hpc,m1,m2,m3,v1,v2,_⟩ := piece_of hp
  have : u = w := h.one_v (c := c) ⟨List.mem_of_getElem? hu,v1,by simp only at v2; omega⟩ ⟨hm,h1,h2⟩
  subst this
  unfold mapL
  rw [hcov,List.map_singleton,hpc]
theorem mapOk_one {c : Int} (hc : 0 ≤ c ∧ c ≤ 1000) : mapOk l s c 1 = true ↔ ∃ w,InW l s c w := by
  rw [mapOk_iff c 1 hc (by decide)]
  constructor
  · exact fun h => h c (by omega) (by omega)
  · intro h d hd hd2
    have : d = c := by omega
    rw [this]; exact h
theorem WinsOk.back_at (h : WinsOk l) {c : Int} {w : TWindow} (hw : InW l s c w) : backOk l s (w.physical + c - w.virtual) = true ∧ backV l s (w.physical + c - w.virtual) = c := by
  obtain ⟨hm,h1,h2⟩ := hw
  have hs : (backF l s (w.physical + c - w.virtual)).isSome = true := by
    unfold backF
    rw [List.find?_isSome]
    exact ⟨w,hm,by unfold holdW; simp only [Bool.and_eq_true,decide_eq_true_eq]; omega⟩
  cases hf : backF l s (w.physical + c - w.virtual) with
  | none => rw [hf] at hs; cases hs
  | some u =>
    have hp := List.find?_some hf
    have hu := List.mem_of_find?_eq_some hf
    unfold holdW at hp
    simp only [Bool.and_eq_true,decide_eq_true_eq] at hp
    have : u = w := h.one_p (c := w.physical + c - w.virtual) hu hm (by omega) (by omega)
    subst this
    unfold backOk backV
    rw [hf]
    exact ⟨rfl,by simp only; omega⟩
end
section
variable {Q : Int → Prop} {a n k z : Nat}
end
end Go.Proofs.Ytljkbpgcglomfaa
set_option linter.unusedVariables false
set_option linter.unusedSimpArgs false
set_option maxRecDepth 10000
set_option maxHeartbeats 1000000
namespace Go.Proofs.Ytljkbpgcglomfaa
open Go Go.Proofs.Ytljkbpgcglomfaa.Pv
theorem s_maskZ {P : Program} {tab : Tab} {nx : Nat} {env : Env} {H : Heap} {K : PV → Nat → Heap → Prop} {t u : Nat} {x y : Operand} {ai : Int} {z : Nat} (n : Nat) {bi : Int} (hn : n < 63) (hz : z = (ai % 2 ^ n).toNat) (h1 : ev env x = some (.f (.v (.int .i64 ai)))) (h2 : ev env y = some (.f (.v (.int .i64 bi)))) (hb : bi = 2 ^ n - 1)
    (h : K (pN z) nx H) : stepOp P tab env nx H K (.binOp .and t x y u) := s_maskI n hn h1 h2 hb (by rw [← hz]; exact h)
theorem w_burgagelaw10_windows (t : List Int) (cl_t : Bool) (i : Nat) (ht : t.length ≤ 70000000000000) (hi : i ≤ 1000) :
    T Try.prog 12 [pS 1 cl_t encI t,pN i] 0 [] (fun ra rb rc => ∃ q : List TWindow,(WinsOk q) ∧ (Ret (pS 4 false eWindow q) 0 []) ra rb rc) := by
 refine t_fun tabOk (n := 20) (rs := [.tmp 4]) Try.func12 rfl rfl rfl rfl (Nat.le_of_ble_eq_true rfl) ?_
 intro c hnt hk
 refine w_seq (w_R (qa hnt rfl rfl (r_end (q_then (w_seq ?_)))))
 refine w_R (qm hnt rfl rfl (qo hnt rfl (s_build tab_49 rfl rfl (b_cons rfl tab_24 rfl rfl rfl (Nat.le_of_ble_eq_true rfl) (b_nil ?_)))))
 refine qo hnt rfl (s_box rfl rfl ?_)
 refine qo hnt rfl (s_callX2 (p := fun (X1 : TTable) (b1 : Nat) => TabG X1) (r2 := fun X1 b1 => PV.f (eTable X1)) (nx1 := 1) (H2 := [(0,.obj [pS 1 cl_t encI t,pI 0])]) (H3 := fun X1 b1 => [(0,.obj [pS 1 false encI t,pN b1])]) [0] [.obj [pS 1 cl_t encI t,pI 0]] rfl rfl rfl (handed_of (by decide) ⟨rfl,trivial⟩) rfl rfl rfl rfl rfl rfl (w_burgagekeep_Tape_Table t cl_t 0 (by omega)) (fun X1 b1 => rfl) (fun X1 b1 => dist_of rfl) (fun X1 b1 => rfl) (fun X1 b1 => rfl) rfl (fun X1 b1 => rfl) (fun X1 b1 hX1 => ?_))
 refine qo hnt rfl (s_alloc tab_73 ?_)
 refine qo hnt rfl (s_store_ptr tab_73 rfl rfl rfl rfl rfl (Nat.le_of_ble_eq_true rfl) ?_)
 refine r_set [(1,pN i),(5,PV.ptr 1 0)] [(1,.obj (cTable X1)),(0,.obj [pS 1 false encI t,pN b1])] 2 ⟨rfl,rfl,trivial⟩ rfl rfl (r_end (q_then (w_seq ?_)))
 have hxl := hX1.len
 refine W_drawn tabOk mixed hnt [[],[0],[],[],[3],[3,4],[2,3,4,5],[0,1,2,3,4,5,6],(.range 8),(.range 9),(.range 10)] (by kernel_rfl) (d_op (x_run0 [(5,PV.ptr 1 0)] [] rfl rfl rfl rfl (s_fa_ptr tab_73 rfl rfl tab_71 (by decide) rfl ⟨rfl,rfl,rfl⟩) (d_op (xL [(10,PV.ptr 1 1)] [0] [(1,.obj (cTable X1))] rfl rfl rfl rfl rfl (s_load_ptr1 tab_71 rfl rfl rfl rfl rfl ⟨rfl,rfl,rfl⟩) ⟨rfl,trivial⟩ rfl (d_op ?_)))))
 refine x_run0 [(1,pN i)] [] rfl rfl rfl rfl (s_move rfl ⟨rfl,rfl,rfl⟩) (d_op (x_run0 [(5,PV.ptr 1 0)] [] rfl rfl rfl rfl (s_fa_ptr tab_73 rfl rfl tab_71 (by decide) rfl ⟨rfl,rfl,rfl⟩) (d_op (xL [(13,PV.ptr 1 1)] [3] [(1,.obj (cTable X1))] rfl rfl rfl rfl rfl (s_load_ptr1 tab_71 rfl rfl rfl rfl rfl ⟨rfl,rfl,rfl⟩) ⟨rfl,trivial⟩ rfl (d_op ?_)))))
 refine x_run0 [(14,pS 5 false eTenant X1.tenants)] [3,4] rfl rfl rfl rfl (s_lenM (l := X1.tenants) tab_71 rfl (hM_sl (f := eTenant) rfl) ⟨rfl,rfl,rfl⟩) (d_op (x_run0 [(12,pN i),(15,pN X1.tenants.length)] [2,3,4,5] rfl rfl rfl rfl (s_remN (a := i) (b := X1.tenants.length) rfl rfl (by omega) (by omega) (by omega) ⟨rfl,rfl,rfl⟩) (d_op ?_)))
 obtain ⟨e1,he1⟩ := get_of_lt X1.tenants (i := i % X1.tenants.length) (by have := Nat.mod_lt i (show 0 < X1.tenants.length by omega); omega)
 refine x_run0 [(11,pS 5 false eTenant X1.tenants),(16,pN (i % X1.tenants.length))] [0,1,2,3,4,5,6] rfl rfl rfl rfl (s_iaM (q := i % X1.tenants.length) (b := e1) (f := eTenant) tab_71 rfl tab_78 rfl rfl (by omega) rfl he1 ⟨rfl,rfl,rfl⟩) (d_op (x_run0 [(17,PV.f (.ro (eTenant e1)))] (.range 8) rfl rfl rfl rfl (s_fa_ro tab_78 rfl rfl tab_22 (by decide) rfl (Nat.le_of_ble_eq_true rfl) (by intro _; rfl) ⟨rfl,rfl,rfl⟩) (d_op (x_run0 [(18,PV.f (.ro (FV.sl 4 false (List.map eWindow e1.windows))))] (.range 9) rfl rfl rfl rfl (s_load_ro1 tab_22 rfl rfl rfl rfl ⟨rfl,rfl,rfl⟩) (d_op ?_)))))
 refine x_run0 [(19,pS 4 false eWindow e1.windows)] (.range 10) rfl rfl rfl rfl (s_assign rfl ⟨rfl,rfl,rfl⟩) (d_end ⟨by kernel_rfl, ?_⟩)
 refine q_then (w_ret ?_)
 have hex : WinsOk e1.windows := by
   exact hX1.wins _ (List.mem_of_getElem? he1)
 exact fin_plain (ret_tmp rfl ret_nil) rfl rfl ⟨(e1.windows),hex,rfl,rfl,rfl⟩
theorem w_burgagelaw10_known   :
    T Try.prog 15 [] 0 [] (Ret (pB true) 0 []) := by
 refine t_fun tabOk (n := 97) (rs := [.tmp 0]) Try.func15 rfl rfl rfl rfl (Nat.le_of_ble_eq_true rfl) ?_
 intro c hnt hk
 refine w_seq (w_R (qa hnt rfl rfl (r_end (q_then (w_seq ?_)))))
 refine w_R (qo hnt rfl (s_build tab_28 rfl rfl (b_cons rfl tab_3 rfl rfl rfl (Nat.le_of_ble_eq_true rfl) (b_cons rfl tab_3 rfl rfl rfl (Nat.le_of_ble_eq_true rfl) (b_cons rfl tab_3 rfl rfl rfl (Nat.le_of_ble_eq_true rfl) (b_cons rfl tab_3 rfl rfl rfl (Nat.le_of_ble_eq_true rfl) (b_nilN (cs' := [pI 3,pI 0,pI 100,pI 4]) rfl ?_)))))))
 refine qo hnt rfl (s_build tab_28 rfl rfl (b_cons rfl tab_3 rfl rfl rfl (Nat.le_of_ble_eq_true rfl) (b_cons rfl tab_3 rfl rfl rfl (Nat.le_of_ble_eq_true rfl) (b_cons rfl tab_3 rfl rfl rfl (Nat.le_of_ble_eq_true rfl) (b_cons rfl tab_3 rfl rfl rfl (Nat.le_of_ble_eq_true rfl) (b_nilN (cs' := [pI 3,pI 4,pI 50,pI 4]) rfl ?_))))))
 refine qo hnt rfl (s_mkM (f := eWindow) [(⟨3,0,100,4⟩ : TWindow),(⟨3,4,50,4⟩ : TWindow)] tab_22 rfl tab_28 ⟨rfl,by decide⟩ (by decide) rfl rfl rfl rfl ?_)
 refine qa hnt rfl rfl (r_set [(1,PV.ref 0 0 none)] [(0,oB true 4 eWindow [(⟨3,0,100,4⟩ : TWindow),(⟨3,4,50,4⟩ : TWindow)])] 1 ⟨rfl,trivial⟩ rfl rfl (r_end (q_then (w_seq (w_H (H' := [(0,oB true 4 eWindow LK)]) (congrArg (fun z => ([(0,oB true 4 eWindow z)] : Heap)) (show [(⟨3,0,100,4⟩ : TWindow),(⟨3,4,50,4⟩ : TWindow)] = LK by rfl)) ?_)))))
 refine w_frzM (s := 1) (f := eWindow) rfl rfl view_0 (w_R (qm hnt rfl rfl (qo hnt rfl (s_callF rfl rfl rfl (w_window_Map LK false 3 2 4 (by decide)) rfl ?_))))
 refine qm hnt rfl rfl (qo hnt rfl (s_extract rfl rfl ?_))
 refine qo hnt rfl (s_extract rfl rfl ?_)
 refine qa hnt rfl rfl (qa hnt rfl rfl (r_end (q_then (w_seq (w_R ?_)))))
 refine qm hnt rfl rfl (qo hnt rfl (s_callF rfl rfl rfl (w_window_Map LK false 3 6 4 (by decide)) rfl ?_))
 refine qm hnt rfl rfl (qo hnt rfl (s_extract rfl rfl ?_))
 refine qo hnt rfl (s_extract rfl rfl ?_)
 refine qa hnt rfl rfl (qa hnt rfl rfl (r_end (q_then (w_seq (w_R ?_)))))
 refine qm hnt rfl rfl (qo hnt rfl (s_callF rfl rfl rfl (w_window_Map LK false 2 0 1 (by decide)) rfl ?_))
 refine qm hnt rfl rfl (qo hnt rfl (s_extract rfl rfl ?_))
 refine qo hnt rfl (s_extract rfl rfl ?_)
 refine qa hnt rfl rfl (qa hnt rfl rfl (r_end (q_then (w_seq (w_R ?_)))))
 refine qm hnt rfl rfl (qo hnt rfl (s_callF rfl rfl rfl (w_window_Back LK false 3 51 (by decide) (by omega)) rfl ?_))
 refine qm hnt rfl rfl (qo hnt rfl (s_extract rfl rfl ?_))
 refine qo hnt rfl (s_extract rfl rfl ?_)
 refine qa hnt rfl rfl (qa hnt rfl rfl (r_end (q_then (w_seq (w_R ?_)))))
 refine qm hnt rfl rfl (qo hnt rfl (s_callF rfl rfl rfl (w_window_Back LK false 3 54 (by decide) (by omega)) rfl ?_))
 refine qm hnt rfl rfl (qo hnt rfl (s_extract rfl rfl ?_))
 refine qo hnt rfl (s_extract rfl rfl ?_)
 refine qa hnt rfl rfl (qa hnt rfl rfl (r_set [(1,pS 4 false eWindow LK),(2,pS 3 true ePiece (mapL LK 3 2 4)),(3,pB (mapOk LK 3 2 4)),(5,pB (mapOk LK 3 6 4)),(7,pB (mapOk LK 2 0 1)),(8,pI (backV LK 3 51)),(9,pB (backOk LK 3 51)),(11,pB (backOk LK 3 54))] [(0,oB false 4 eWindow LK)] 1 ⟨rfl,rfl,rfl,rfl,rfl,rfl,rfl,rfl,trivial⟩ rfl rfl (r_end (q_then (w_seq ?_)))))
 refine w_R (qm hnt rfl rfl (qm hnt rfl rfl (r_if tabOk hnt rfl rfl rfl (fun g1 => ?_) (fun g1 => ?_))))
 ·have g1' := g1
  try simp only [sB] at g1'
  refine qm hnt rfl rfl (ry hnt rfl rfl rfl g1 (qo hnt rfl (s_build tab_36 rfl rfl (b_cons rfl tab_3 rfl rfl rfl (Nat.le_of_ble_eq_true rfl) (b_cons rfl tab_3 rfl rfl rfl (Nat.le_of_ble_eq_true rfl) (b_cons rfl tab_3 rfl rfl rfl (Nat.le_of_ble_eq_true rfl) (b_nilN (cs' := [pI 2,pI 102,pI 2]) rfl ?_)))))))
  refine ry hnt rfl rfl rfl g1 (qo hnt rfl (s_build tab_36 rfl rfl (b_cons rfl tab_3 rfl rfl rfl (Nat.le_of_ble_eq_true rfl) (b_cons rfl tab_3 rfl rfl rfl (Nat.le_of_ble_eq_true rfl) (b_cons rfl tab_3 rfl rfl rfl (Nat.le_of_ble_eq_true rfl) (b_nilN (cs' := [pI 4,pI 50,pI 2]) rfl ?_))))))
  refine ry hnt rfl rfl rfl g1 (qo hnt rfl (s_mkM (f := ePiece) [(⟨2,102,2⟩ : TPiece),(⟨4,50,2⟩ : TPiece)] tab_32 rfl tab_36 ⟨rfl,by decide⟩ (by decide) rfl rfl rfl rfl ?_))
  refine ry hnt rfl rfl rfl g1 (qo hnt rfl (s_callX (r2 := pB (decide ((mapL LK 3 2 4) = [(⟨2,102,2⟩ : TPiece),(⟨4,50,2⟩ : TPiece)]))) (nx1 := 2) (H2 := [(1,oB false 3 ePiece [(⟨2,102,2⟩ : TPiece),(⟨4,50,2⟩ : TPiece)]),(0,oB false 4 eWindow LK)]) (H3 := [(1,oB false 3 ePiece [(⟨2,102,2⟩ : TPiece),(⟨4,50,2⟩ : TPiece)]),(0,oB false 4 eWindow LK)]) [] [] rfl rfl rfl (handed_of (by decide) trivial) rfl rfl rfl rfl rfl rfl (w_burgagebook_Same_window_Piece (mapL LK 3 2 4) true [(⟨2,102,2⟩ : TPiece),(⟨4,50,2⟩ : TPiece)] false (by rw [kn_2]; decide)) rfl (dist_of rfl) rfl rfl rfl rfl ?_))
  refine qo hnt rfl (s_pick_t rfl g1 rfl ?_)
  refine qm hnt rfl rfl (r_if tabOk hnt rfl rfl rfl (fun g2 => ?_) (fun g2 => ?_))
  ·have g2' := g2
   try simp only [sB] at g2'
   refine qm hnt rfl rfl (ry hnt rfl rfl rfl g2 (qo hnt rfl (s_not rfl ?_)))
   refine qo hnt rfl (s_pick_t rfl g2 rfl ?_)
   refine qm hnt rfl rfl (r_if tabOk hnt rfl rfl rfl (fun g3 => ?_) (fun g3 => ?_))
   ·have g3' := g3
    try simp only [sB] at g3'
    refine qm hnt rfl rfl (ry hnt rfl rfl rfl g3 (qo hnt rfl (s_not rfl ?_)))
    refine qo hnt rfl (s_pick_t rfl g3 rfl ?_)
    refine qm hnt rfl rfl (r_if tabOk hnt rfl rfl rfl (fun g4 => ?_) (fun g4 => ?_))
    ·have g4' := g4
     try simp only [sB] at g4'
     refine qm hnt rfl rfl (qo hnt rfl (s_pick_t rfl g4 rfl ?_))
     refine qm hnt rfl rfl (r_if tabOk hnt rfl rfl rfl (fun g5 => ?_) (fun g5 => ?_))
     ·have g5' := g5
      try simp only [sB] at g5'
      refine qm hnt rfl rfl (ry hnt rfl rfl rfl g5 (qo hnt rfl (s_eql rfl rfl ?_)))
      refine qo hnt rfl (s_pick_t rfl g5 rfl ?_)
      refine qm hnt rfl rfl (r_if tabOk hnt rfl rfl rfl (fun g6 => ?_) (fun g6 => ?_))
      ·have g6' := g6
       try simp only [sB] at g6'
       refine qm hnt rfl rfl (ry hnt rfl rfl rfl g6 (qo hnt rfl (s_not rfl ?_)))
       refine qo hnt rfl (s_pick_t rfl g6 rfl ?_)
       refine qm hnt rfl rfl (r_if tabOk hnt rfl rfl rfl (fun g7 => ?_) (fun g7 => ?_))
       ·have g7' := g7
        try simp only [sB] at g7'
        refine qm hnt rfl rfl (ry hnt rfl rfl rfl g7 (qo hnt rfl (s_callF rfl rfl rfl (w_window_Own LK false (by decide)) rfl ?_)))
        refine qo hnt rfl (s_pick_t rfl g7 rfl ?_)
        refine qm hnt rfl rfl (r_if tabOk hnt rfl rfl rfl (fun g8 => ?_) (fun g8 => ?_))
        ·have g8' := g8
         try simp only [sB] at g8'
         refine qm hnt rfl rfl (ry hnt rfl rfl rfl g8 (qm hnt rfl rfl (ry hnt rfl rfl rfl g8 (qo hnt rfl (s_callF rfl rfl rfl (w_window_Meets LK false LK false (by decide) (by decide)) rfl ?_)))))
         refine qo hnt rfl (s_pick_t rfl g8 rfl ?_)
         refine qm hnt rfl rfl (r_if tabOk hnt rfl rfl rfl (fun g9 => ?_) (fun g9 => ?_))
         ·have g9' := g9
          try simp only [sB] at g9'
          refine qm hnt rfl rfl (ry hnt rfl rfl rfl g9 (qo hnt rfl (s_callF rfl rfl rfl (T.leL (args := [pS 4 false eWindow LK,pNil]) (args' := [pS 4 false eWindow LK,pS 4 false eWindow []]) ⟨le_refl _,⟨le_F (FLe.nil 4 false),trivial⟩⟩ (w_window_Meets LK false [] false (by decide) (by decide))) rfl ?_)))
          refine ry hnt rfl rfl rfl g9 (qo hnt rfl (s_not rfl ?_))
          refine qo hnt rfl (s_pick_t rfl g9 rfl ?_)
          refine qm hnt rfl rfl (r_if tabOk hnt rfl rfl rfl (fun g10 => ?_) (fun g10 => ?_))
          ·have g10' := g10
           try simp only [sB] at g10'
           refine qm hnt rfl rfl (ry hnt rfl rfl rfl g10 ?_)
           obtain ⟨e1,he1⟩ := get_of_lt LK (i := 0) (by decide)
           refine qo hnt rfl (s_iaM (q := 0) (b := e1) (f := eWindow) tab_22 rfl tab_28 rfl rfl (by omega) rfl he1 ?_)
           refine ry hnt rfl rfl rfl g10 (qo hnt rfl (s_load_ro tab_28 rfl rfl rfl ?_))
           refine ry hnt rfl rfl rfl g10 (qo hnt rfl (s_callF rfl rfl rfl (w_window_Right e1) rfl ?_))
           refine qo hnt rfl (s_pick_t rfl g10 rfl ?_)
           refine qm hnt rfl rfl (r_if tabOk hnt rfl rfl rfl (fun g11 => ?_) (fun g11 => ?_))
           ·have g11' := g11
            try simp only [sB] at g11'
            refine qo hnt rfl (s_build tab_28 rfl rfl (b_cons rfl tab_3 rfl rfl rfl (Nat.le_of_ble_eq_true rfl) (b_cons rfl tab_3 rfl rfl rfl (Nat.le_of_ble_eq_true rfl) (b_nil ?_))))
            refine ry hnt rfl rfl rfl g11 (qo hnt rfl (s_callF rfl rfl rfl (w_window_Right (⟨4,0,0,1⟩ : TWindow)) rfl ?_))
            refine ry hnt rfl rfl rfl g11 (qo hnt rfl (s_not rfl ?_))
            refine qo hnt rfl (s_pick_t rfl g11 rfl ?_)
            refine qm hnt rfl rfl (r_if tabOk hnt rfl rfl rfl (fun g12 => ?_) (fun g12 => ?_))
            ·have g12' := g12
             try simp only [sB] at g12'
             refine qo hnt rfl (s_build tab_28 rfl rfl (b_cons rfl tab_3 rfl rfl rfl (Nat.le_of_ble_eq_true rfl) (b_cons rfl tab_3 rfl rfl rfl (Nat.le_of_ble_eq_true rfl) (b_nil ?_))))
             refine ry hnt rfl rfl rfl g12 (qo hnt rfl (s_callF rfl rfl rfl (w_window_Right (⟨0,0,511,2⟩ : TWindow)) rfl ?_))
             refine ry hnt rfl rfl rfl g12 (qo hnt rfl (s_not rfl ?_))
             refine qo hnt rfl (s_pick_t rfl g12 rfl ?_)
             refine qa hnt rfl rfl (r_set [(0,pB (!(winR (⟨0,0,511,2⟩ : TWindow))))] [(1,oB false 3 ePiece [(⟨2,102,2⟩ : TPiece),(⟨4,50,2⟩ : TPiece)]),(0,oB false 4 eWindow LK)] 2 ⟨rfl,trivial⟩ rfl rfl (r_end (q_then (w_le (s := 0) (y := pB true) rfl (le_of_eq (congrArg pB (show (!(winR (⟨0,0,511,2⟩ : TWindow))) = true by decide))) (w_ret ?_)))))
             exact fin_plain (ret_tmp rfl ret_nil) rfl rfl ⟨rfl,rfl,rfl⟩
            exact absurd g12 (by decide)
           exact absurd g11 (by (have h9 : (⟨3,0,100,4⟩ : TWindow) = e1 := Option.some.inj he1; subst h9; decide))
          exact absurd g10 (by decide)
         exact absurd g9 (by decide)
        exact absurd g8 (by decide)
       exact absurd g7 (by decide)
      exact absurd g6 (by decide)
     exact absurd g5 (by decide)
    exact absurd g4 (by (rw [kn_4]; decide))
   exact absurd g3 (by (rw [kn_3]; decide))
  exact absurd g2 (by (rw [kn_2]; decide))
 exact absurd g1 (by (rw [kn_1]; decide))
end Go.Proofs.Ytljkbpgcglomfaa
set_option linter.unusedVariables false
namespace Go.Proofs.Ytljkbpgcglomfaa
open Go Go.Proofs.Ytljkbpgcglomfaa.Pv
section
variable {l : List TWindow} {s : Int} {k : Nat} {es : List (Int × Int)}
def Met (l : List TWindow) (s : Int) (k : Nat) (es : List (Int × Int)) : Prop := ∀ e ∈ es,∃ c : Nat,c < k ∧ ∃ w,InW l s (c : Int) w ∧ e.1 = w.physical + (c : Int) - w.virtual
theorem Met.nil : Met l s 0 [] := fun e h => by cases h
theorem Met.skip (h : Met l s k es) : Met l s (k + 1) es := fun e he => by
  obtain ⟨c,hc,hw⟩ := h e he
  exact ⟨c,by omega,hw⟩
theorem Met.put (h : Met l s k es) {w : TWindow} (hw : InW l s (k : Int) w) (v : Int) : Met l s (k + 1) (es ++ [(w.physical + (k : Int) - w.virtual,v)]) := fun e he => by
  rcases List.mem_append.1 he with h1|h1
  · exact h.skip e h1
  · have h2 := List.mem_singleton.1 h1
    subst h2
    exact ⟨k,by omega,w,hw,rfl⟩
theorem Met.new (h : Met l s k es) (hl : WinsOk l) {w : TWindow} (hw : InW l s (k : Int) w) : mpGet es (w.physical + (k : Int) - w.virtual) = none := mpGet_none fun e he hne => by
  obtain ⟨c,hc,w2,hw2,he2⟩ := h e he
  have b1 := (hl.back_at hw2).2
  have b2 := (hl.back_at hw).2
  rw [← he2,hne,b2] at b1
  omega
end
end Go.Proofs.Ytljkbpgcglomfaa
set_option linter.unusedVariables false
set_option linter.unusedSimpArgs false
set_option maxRecDepth 10000
set_option maxHeartbeats 1000000
namespace Go.Proofs.Ytljkbpgcglomfaa
open Go Go.Proofs.Ytljkbpgcglomfaa.Pv
theorem w_burgagelaw10_WindowCells (t : List Int) (cl_t : Bool) (i : Int) (space : Int) (ht : t.length ≤ 70000000000000) :
    T Try.prog 5 [pS 1 cl_t encI t,pI i,pI space] 0 [] (Ret (pB true) 0 []) := by
 refine t_fun tabOk (n := 89) (rs := [.tmp 6]) Try.func5 rfl rfl rfl rfl (Nat.le_of_ble_eq_true rfl) ?_
 intro c hnt hk
 refine w_seq (w_R (qa hnt rfl rfl (r_end (q_then (w_seq ?_)))))
 refine w_R (qm hnt rfl rfl (qm hnt rfl rfl ?_))
 obtain ⟨mk1,hmk1⟩ : ∃ z : Nat,z = (i % 2 ^ 2).toNat := ⟨_,rfl⟩
 have lmk1 : mk1 < 4 := by omega
 refine qo hnt rfl (s_maskZ 2 (by decide) hmk1 rfl rfl (by decide) ?_)
 refine qo hnt rfl (s_callX1 (p := fun (q1 : List TWindow) => WinsOk q1) (r2 := fun q1 => pS 4 false eWindow q1) (nx1 := 0) (H2 := []) (H3 := fun q1 => []) [] [] rfl rfl rfl (handed_of (by decide) trivial) rfl rfl rfl rfl rfl rfl (w_burgagelaw10_windows t cl_t mk1 (by omega) (by omega)) (fun q1 => rfl) (fun q1 => dist_of rfl) (fun q1 => rfl) (fun q1 => rfl) rfl (fun q1 => rfl) (fun q1 hq1 => ?_))
 refine qa hnt rfl rfl (r_end (q_then (w_seq ?_)))
 have hl1 := hq1.len
 refine w_R (qm hnt rfl rfl ?_)
 obtain ⟨mk2,hmk2⟩ : ∃ z : Nat,z = (space % 2 ^ 2).toNat := ⟨_,rfl⟩
 have lmk2 : mk2 < 4 := by omega
 refine qo hnt rfl (s_maskZ 2 (by decide) hmk2 rfl rfl (by decide) ?_)
 refine qa hnt rfl rfl (r_end (q_then (w_seq ?_)))
 obtain ⟨sk,hsk⟩ : ∃ z : Nat,z = mk2 := ⟨_,rfl⟩
 refine w_eq (s := 8) (y := pN sk) rfl (congrArg (fun z : Nat => pN z) (show mk2 = sk by exact hsk.symm)) ?_
 have hsk2 : sk ≤ 3 := by omega
 refine w_R (qo hnt rfl (s_mmap (fun mr1 => ?_)))
 refine qa hnt rfl rfl (r_set [(7,pS 4 false eWindow q1),(8,pN sk),(9,PV.f (.v (.map (some mr1))))] [(0,.mp mr1 ([] : List (Int × Int)))] 1 ⟨rfl,rfl,rfl,trivial⟩ rfl rfl (r_end (q_then (w_seq (w_seq ?_)))))
 refine w_R (qa hnt rfl rfl (r_end (q_then (w_block (loop2 (fun (ms : List (Int × Int)) (cc : Nat) => cc ≤ 140 ∧ Met q1 (sk : Int) cc ms) (fun (ms : List (Int × Int)) (cc : Nat) => [(7,pS 4 false eWindow q1),(8,pN sk),(9,PV.f (.v (.map (some mr1)))),(10,pN cc)]) 1 (fun (ms : List (Int × Int)) (cc : Nat) => [(0,.mp mr1 ms)]) (fun (ms : List (Int × Int)) (cc : Nat) => 140 - cc) (([] : List (Int × Int))) (0) ?_ ⟨[(0,0)],by rw [hk]; decide,⟨⟨_,rfl,rfl,rfl⟩,⟨_,rfl,rfl,rfl⟩,⟨_,rfl,rfl,rfl⟩,⟨_,rfl,rfl,rfl⟩,trivial⟩,⟨⟨_,_,rfl,rfl,rfl,rfl⟩,trivial⟩,by rw [hk]; decide⟩ ?_)))))
 · exact ⟨by omega,Met.nil⟩
 ·intro ms cc hI
  obtain ⟨hcc,hmet⟩ := hI
  refine w_seq (w_seq (w_R (qm hnt rfl rfl (qo hnt rfl (s_lss rfl rfl ?_)))))
  refine r_end (q_then (w_if rfl (fun c1 => ?_) (fun c1 => ?_)))
  ·try simp only [sB] at c1
   refine w_skip (q_then (w_seq (w_block (w_seq (w_R ?_)))))
   refine qm hnt rfl rfl (qm hnt rfl rfl (qm hnt rfl rfl (qo hnt rfl (s_callF rfl rfl rfl (w_window_Map q1 false ((sk : Nat) : Int) ((cc : Nat) : Int) 1 (by omega)) rfl ?_))))
   refine qm hnt rfl rfl (qo hnt rfl (s_extract rfl rfl ?_))
   refine qo hnt rfl (s_extract rfl rfl ?_)
   refine qa hnt rfl rfl (qa hnt rfl rfl (r_end (q_then (w_seq (w_seq ?_)))))
   refine w_R (qm hnt rfl rfl (qo hnt rfl (s_not rfl ?_)))
   refine r_end (q_then (w_if rfl (fun c2 => ?_) (fun c2 => ?_)))
   ·have c2_ := c2
    try simp only [sB] at c2
    refine w_exit (q_then_exit (q_block_exit (q_then (w_R (qm hnt rfl rfl ?_)))))
    refine qo hnt rfl (s_addN (a := cc) (b := 1) rfl rfl (by omega) (by omega) (by omega) ?_)
    refine qa hnt rfl rfl (r_end (q_then (⟨(ms),(cc + 1), ?_, ?_,⟨[(0,0)],by rw [hk]; decide,⟨⟨_,rfl,rfl,rfl⟩,⟨_,rfl,rfl,rfl⟩,⟨_,rfl,rfl,rfl⟩,⟨_,rfl,rfl,rfl⟩,trivial⟩,⟨⟨_,_,rfl,rfl,rfl,rfl⟩,trivial⟩,by rw [hk]; decide⟩⟩)))
    ·exact ⟨by omega,hmet.skip⟩
    · omega
   have c2_ := c2
   try simp only [sB] at c2
   refine w_skip (q_then (w_seq (w_seq ?_)))
   obtain ⟨w1,hw1⟩ := (mapOk_one (l := q1) (s := (sk : Int)) (c := ((cc : Nat) : Int)) (by omega)).1 (by simpa using c2_)
   have hone := hq1.map_one (s := (sk : Int)) (c := ((cc : Nat) : Int)) (by omega) hw1
   have hbk := hq1.back_at hw1
   have hnew := hmet.new hq1 hw1
   obtain ⟨ph,hph⟩ : ∃ z : Int,z = w1.physical + ((cc : Nat) : Int) - w1.virtual := ⟨_,rfl⟩
   rw [← hph] at hone hbk hnew
   have hwr := (winR_iff w1).1 (ofL_mem hw1.1).1
   have hwv := hw1.2
   have hpb : 0 ≤ ph ∧ ph ≤ 65536 := by omega
   refine w_eq (s := 11) (y := pS 3 true ePiece [(⟨((cc : Nat) : Int),ph,1⟩ : TPiece)]) rfl (congrArg (fun z => pS 3 true ePiece z) (show (mapL q1 ((sk : Nat) : Int) ((cc : Nat) : Int) 1) = [(⟨((cc : Nat) : Int),ph,1⟩ : TPiece)] by exact hone)) (w_R (qm hnt rfl rfl (qo hnt rfl (s_lenM (l := [(⟨((cc : Nat) : Int),ph,1⟩ : TPiece)]) tab_32 rfl (hM_sl (f := ePiece) rfl) ?_))))
   refine qo hnt rfl (s_neq rfl rfl ?_)
   refine qm hnt rfl rfl (r_if tabOk hnt rfl rfl rfl (fun g1 => ?_) (fun g1 => ?_))
   ·have g1' := g1
    try simp only [sB] at g1'
    refine qm hnt rfl rfl (ry hnt rfl rfl rfl g1 ?_)
    obtain ⟨e1,he1⟩ := get_of_lt [(⟨((cc : Nat) : Int),ph,1⟩ : TPiece)] (i := 0) (by omega)
    refine qo hnt rfl (s_iaM (q := 0) (b := e1) (f := ePiece) tab_32 rfl tab_36 rfl rfl (by omega) rfl he1 ?_)
    refine ry hnt rfl rfl rfl g1 (qo hnt rfl (s_fa_ro tab_36 rfl rfl tab_3 (by decide) rfl (Nat.le_of_ble_eq_true rfl) (by intro _; rfl) ?_))
    refine ry hnt rfl rfl rfl g1 (qo hnt rfl (s_load_ro1 tab_3 rfl rfl rfl rfl ?_))
    refine ry hnt rfl rfl rfl g1 (qm hnt rfl rfl (ry hnt rfl rfl rfl g1 (qo hnt rfl (s_neq rfl rfl ?_))))
    refine qo hnt rfl (s_pick_f rfl g1 rfl ?_)
    refine qm hnt rfl rfl (r_if tabOk hnt rfl rfl rfl (fun g2 => ?_) (fun g2 => ?_))
    ·have g2' := g2
     try simp only [sB] at g2'
     refine qm hnt rfl rfl (ry hnt rfl rfl rfl g2 (qo hnt rfl (s_iaM (q := 0) (b := e1) (f := ePiece) tab_32 rfl tab_36 rfl rfl (by omega) rfl he1 ?_)))
     refine ry hnt rfl rfl rfl g2 (qo hnt rfl (s_fa_ro tab_36 rfl rfl tab_3 (by decide) rfl (Nat.le_of_ble_eq_true rfl) (by intro _; rfl) ?_))
     refine ry hnt rfl rfl rfl g2 (qo hnt rfl (s_load_ro1 tab_3 rfl rfl rfl rfl ?_))
     refine ry hnt rfl rfl rfl g2 (qo hnt rfl (s_neq rfl rfl ?_))
     refine qo hnt rfl (s_pick_f rfl g2 rfl ?_)
     refine qm hnt rfl rfl (r_if tabOk hnt rfl rfl rfl (fun g3 => ?_) (fun g3 => ?_))
     ·have g3' := g3
      try simp only [sB] at g3'
      refine qm hnt rfl rfl (ry hnt rfl rfl rfl g3 (qm hnt rfl rfl (ry hnt rfl rfl rfl g3 (qo hnt rfl (s_iaM (q := 0) (b := e1) (f := ePiece) tab_32 rfl tab_36 rfl rfl (by omega) rfl he1 ?_)))))
      refine ry hnt rfl rfl rfl g3 (qo hnt rfl (s_fa_ro tab_36 rfl rfl tab_3 (by decide) rfl (Nat.le_of_ble_eq_true rfl) (by intro _; rfl) ?_))
      refine ry hnt rfl rfl rfl g3 (qo hnt rfl (s_load_ro1 tab_3 rfl rfl rfl rfl ?_))
      refine r_eq (s := 58) (y := pI ph) rfl (congrArg pI (show e1.physical = ph by (have h9 : (⟨((cc : Nat) : Int),ph,1⟩ : TPiece) = e1 := Option.some.inj he1; rw [← h9]))) (ry hnt rfl rfl rfl g3 (qo hnt rfl (s_mlook (n := 0) (es := ms) Try.underlying31 Try.underlying3 (by kernel_rfl) rfl rfl rfl ?_)))
      refine ry hnt rfl rfl rfl g3 (qo hnt rfl (s_gtr rfl rfl ?_))
      refine qo hnt rfl (s_pick_f rfl g3 rfl ?_)
      refine r_set [(7,pS 4 false eWindow q1),(8,pN sk),(9,PV.f (.v (.map (some mr1)))),(10,pN cc),(11,pS 3 true ePiece [(⟨((cc : Nat) : Int),ph,1⟩ : TPiece)]),(39,pS 3 true ePiece [(⟨((cc : Nat) : Int),ph,1⟩ : TPiece)]),(40,PV.f (.ro (ePiece e1))),(41,PV.f (.ro (encI e1.at_))),(42,pI e1.at_),(43,pN cc),(44,pB (!decide (e1.at_ = ((cc : Nat) : Int)))),(47,pS 3 true ePiece [(⟨((cc : Nat) : Int),ph,1⟩ : TPiece)]),(48,PV.f (.ro (ePiece e1))),(49,PV.f (.ro (encI e1.count))),(50,pI e1.count),(51,pB (!decide (e1.count = 1))),(54,PV.f (.v (.map (some mr1)))),(55,pS 3 true ePiece [(⟨((cc : Nat) : Int),ph,1⟩ : TPiece)]),(56,PV.f (.ro (ePiece e1))),(57,PV.f (.ro (encI e1.physical))),(58,pI ph),(59,pI ((mpGet ms ph).getD 0)),(60,pB (decide (0 < (mpGet ms ph).getD 0))),(61,pB (decide (0 < (mpGet ms ph).getD 0)))] [(0,.mp mr1 ms)] 1 ⟨rfl,rfl,rfl,rfl,rfl,rfl,rfl,rfl,rfl,rfl,rfl,rfl,rfl,rfl,rfl,rfl,rfl,rfl,rfl,rfl,rfl,rfl,rfl,rfl,trivial⟩ rfl rfl (r_end (q_then (w_if rfl (fun c3 => ?_) (fun c3 => ?_))))
      ·exact absurd c3 (by (rw [hnew]; simp; done))
      try simp only [sB] at c3
      refine w_skip (q_then (w_seq (w_R (qm hnt rfl rfl (qm hnt rfl rfl ?_)))))
      refine qo hnt rfl (s_iaM (q := 0) (b := e1) (f := ePiece) tab_32 rfl tab_36 rfl rfl (by omega) rfl he1 ?_)
      refine qo hnt rfl (s_fa_ro tab_36 rfl rfl tab_3 (by decide) rfl (Nat.le_of_ble_eq_true rfl) (by intro _; rfl) ?_)
      refine qo hnt rfl (s_load_ro1 tab_3 rfl rfl rfl rfl ?_)
      refine r_eq (s := 66) (y := pI ph) rfl (congrArg pI (show e1.physical = ph by (have h9 : (⟨((cc : Nat) : Int),ph,1⟩ : TPiece) = e1 := Option.some.inj he1; rw [← h9]))) (qo hnt rfl (s_mput (n := 0) (es := ms) Try.underlying31 Try.underlying3 rfl rfl rfl rfl (by exact hnew) ?_))
      refine r_set [(7,pS 4 false eWindow q1),(8,pN sk),(9,PV.f (.v (.map (some mr1)))),(10,pN cc),(11,pS 3 true ePiece [(⟨((cc : Nat) : Int),ph,1⟩ : TPiece)]),(39,pS 3 true ePiece [(⟨((cc : Nat) : Int),ph,1⟩ : TPiece)]),(40,PV.f (.ro (ePiece e1))),(41,PV.f (.ro (encI e1.at_))),(42,pI e1.at_),(43,pN cc),(44,pB (!decide (e1.at_ = ((cc : Nat) : Int)))),(47,pS 3 true ePiece [(⟨((cc : Nat) : Int),ph,1⟩ : TPiece)]),(48,PV.f (.ro (ePiece e1))),(49,PV.f (.ro (encI e1.count))),(50,pI e1.count),(51,pB (!decide (e1.count = 1))),(54,PV.f (.v (.map (some mr1)))),(55,pS 3 true ePiece [(⟨((cc : Nat) : Int),ph,1⟩ : TPiece)]),(56,PV.f (.ro (ePiece e1))),(57,PV.f (.ro (encI e1.physical))),(58,pI ph),(59,pI ((mpGet ms ph).getD 0)),(60,pB (decide (0 < (mpGet ms ph).getD 0)))] [(0,.mp mr1 (ms ++ [(ph,1)]))] 1 ⟨rfl,rfl,rfl,rfl,rfl,rfl,rfl,rfl,rfl,rfl,rfl,rfl,rfl,rfl,rfl,rfl,rfl,rfl,rfl,rfl,rfl,rfl,rfl,trivial⟩ rfl rfl (r_end (q_then (w_seq (w_R (qm hnt rfl rfl ?_)))))
      refine qm hnt rfl rfl (qm hnt rfl rfl (qo hnt rfl (s_iaM (q := 0) (b := e1) (f := ePiece) tab_32 rfl tab_36 rfl rfl (by omega) rfl he1 ?_)))
      refine qo hnt rfl (s_fa_ro tab_36 rfl rfl tab_3 (by decide) rfl (Nat.le_of_ble_eq_true rfl) (by intro _; rfl) ?_)
      refine qo hnt rfl (s_load_ro1 tab_3 rfl rfl rfl rfl ?_)
      refine r_eq (s := 73) (y := pI ph) rfl (congrArg pI (show e1.physical = ph by (have h9 : (⟨((cc : Nat) : Int),ph,1⟩ : TPiece) = e1 := Option.some.inj he1; rw [← h9]))) (qo hnt rfl (s_callF rfl rfl rfl (w_window_Back q1 false ((sk : Nat) : Int) ph (by omega) (by omega)) rfl ?_))
      refine qm hnt rfl rfl (qo hnt rfl (s_extract rfl rfl ?_))
      refine qo hnt rfl (s_extract rfl rfl ?_)
      refine qa hnt rfl rfl (qa hnt rfl rfl (r_set [(7,pS 4 false eWindow q1),(8,pN sk),(9,PV.f (.v (.map (some mr1)))),(10,pN cc),(13,pI (backV q1 ((sk : Nat) : Int) ph)),(14,pB (backOk q1 ((sk : Nat) : Int) ph)),(39,pS 3 true ePiece [(⟨((cc : Nat) : Int),ph,1⟩ : TPiece)]),(40,PV.f (.ro (ePiece e1))),(41,PV.f (.ro (encI e1.at_))),(42,pI e1.at_),(43,pN cc),(44,pB (!decide (e1.at_ = ((cc : Nat) : Int)))),(47,pS 3 true ePiece [(⟨((cc : Nat) : Int),ph,1⟩ : TPiece)]),(48,PV.f (.ro (ePiece e1))),(49,PV.f (.ro (encI e1.count))),(50,pI e1.count),(51,pB (!decide (e1.count = 1))),(54,PV.f (.v (.map (some mr1)))),(55,pS 3 true ePiece [(⟨((cc : Nat) : Int),ph,1⟩ : TPiece)]),(56,PV.f (.ro (ePiece e1))),(57,PV.f (.ro (encI e1.physical))),(58,pI ph),(59,pI ((mpGet ms ph).getD 0)),(60,pB (decide (0 < (mpGet ms ph).getD 0)))] [(0,.mp mr1 (ms ++ [(ph,1)]))] 1 ⟨rfl,rfl,rfl,rfl,rfl,rfl,rfl,rfl,rfl,rfl,rfl,rfl,rfl,rfl,rfl,rfl,rfl,rfl,rfl,rfl,rfl,rfl,rfl,rfl,trivial⟩ rfl rfl (r_end (q_then (w_seq ?_)))))
      refine w_R (qm hnt rfl rfl (qo hnt rfl (s_not rfl ?_)))
      refine qm hnt rfl rfl (r_if tabOk hnt rfl rfl rfl (fun g4 => ?_) (fun g4 => ?_))
      ·have g4' := g4
       try simp only [sB] at g4'
       refine qm hnt rfl rfl (ry hnt rfl rfl rfl g4 (qm hnt rfl rfl (ry hnt rfl rfl rfl g4 (qo hnt rfl (s_neq rfl rfl ?_)))))
       refine qo hnt rfl (s_pick_f rfl g4 rfl ?_)
       refine r_set [(7,pS 4 false eWindow q1),(8,pN sk),(9,PV.f (.v (.map (some mr1)))),(10,pN cc),(39,pS 3 true ePiece [(⟨((cc : Nat) : Int),ph,1⟩ : TPiece)]),(40,PV.f (.ro (ePiece e1))),(41,PV.f (.ro (encI e1.at_))),(42,pI e1.at_),(43,pN cc),(44,pB (!decide (e1.at_ = ((cc : Nat) : Int)))),(47,pS 3 true ePiece [(⟨((cc : Nat) : Int),ph,1⟩ : TPiece)]),(48,PV.f (.ro (ePiece e1))),(49,PV.f (.ro (encI e1.count))),(50,pI e1.count),(51,pB (!decide (e1.count = 1))),(54,PV.f (.v (.map (some mr1)))),(55,pS 3 true ePiece [(⟨((cc : Nat) : Int),ph,1⟩ : TPiece)]),(56,PV.f (.ro (ePiece e1))),(57,PV.f (.ro (encI e1.physical))),(58,pI ph),(59,pI ((mpGet ms ph).getD 0)),(60,pB (decide (0 < (mpGet ms ph).getD 0))),(80,pI (backV q1 ((sk : Nat) : Int) ph)),(81,pN cc),(82,pB (!decide (backV q1 ((sk : Nat) : Int) ph = ((cc : Nat) : Int)))),(83,pB (!decide (backV q1 ((sk : Nat) : Int) ph = ((cc : Nat) : Int))))] [(0,.mp mr1 (ms ++ [(ph,1)]))] 1 ⟨rfl,rfl,rfl,rfl,rfl,rfl,rfl,rfl,rfl,rfl,rfl,rfl,rfl,rfl,rfl,rfl,rfl,rfl,rfl,rfl,rfl,rfl,rfl,rfl,rfl,rfl,trivial⟩ rfl rfl (r_end (q_then (w_if rfl (fun c4 => ?_) (fun c4 => ?_))))
       ·exact absurd c4 (by rw [hbk.2]; simp)
       try simp only [sB] at c4
       refine w_skip (q_block (q_then (w_R (qm hnt rfl rfl (qo hnt rfl (s_addN (a := cc) (b := 1) rfl rfl (by omega) (by omega) (by omega) ?_))))))
       refine qa hnt rfl rfl (r_end (q_then (⟨(ms ++ [(ph,1)]),(cc + 1), ?_, ?_,⟨[(0,0)],by rw [hk]; decide,⟨⟨_,rfl,rfl,rfl⟩,⟨_,rfl,rfl,rfl⟩,⟨_,rfl,rfl,rfl⟩,⟨_,rfl,rfl,rfl⟩,trivial⟩,⟨⟨_,_,rfl,rfl,rfl,rfl⟩,trivial⟩,by rw [hk]; decide⟩⟩)))
       ·(exact ⟨by omega,by rw [hph]; exact hmet.put hw1 1⟩)
       · omega
      exact absurd g4 (by rw [hbk.1]; simp)
     exact absurd g3 (by (have h9 : (⟨((cc : Nat) : Int),ph,1⟩ : TPiece) = e1 := Option.some.inj he1; rw [← h9]; simp; done))
    exact absurd g2 (by (have h9 : (⟨((cc : Nat) : Int),ph,1⟩ : TPiece) = e1 := Option.some.inj he1; rw [← h9]; simp; done))
   exact absurd g1 (by (simp; done))
  try simp only [sB] at c1
  refine w_exit (q_then_exit (q_then_exit (q_block_exit (q_then (w_seq ?_)))))
  refine w_R (qm hnt rfl rfl (qo hnt rfl (s_callF rfl rfl rfl (w_window_Own q1 false (by omega)) rfl ?_)))
  refine qm hnt rfl rfl (r_if tabOk hnt rfl rfl rfl (fun g5 => ?_) (fun g5 => ?_))
  ·have g5' := g5
   try simp only [sB] at g5'
   refine qo hnt rfl (s_callF rfl rfl rfl (w_burgagelaw10_known) rfl ?_)
   refine qo hnt rfl (s_pick_t rfl g5 rfl ?_)
   refine qa hnt rfl rfl (r_end (q_then (w_ret ?_)))
   exact fin_plain (ret_tmp rfl ret_nil) rfl rfl ⟨rfl,rfl,rfl⟩
  exact absurd g5 (by rw [hq1.own]; simp)
end Go.Proofs.Ytljkbpgcglomfaa
