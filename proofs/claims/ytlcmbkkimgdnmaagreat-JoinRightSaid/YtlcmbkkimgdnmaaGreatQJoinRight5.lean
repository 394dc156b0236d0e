/- What the law JoinRight needs, and no more: merged out of texts of this session by a program of it (wip/tools/prune.py). -/
import Derived.Test.YtlcmbkkimgdnmaaGreatQJoinRight4
set_option linter.unusedVariables false
set_option linter.unusedSimpArgs false
namespace Go.Proofs.YtlcmbkkimgdnmaaGreat
open Go Go.Proofs.YtlcmbkkimgdnmaaGreat.Pv
section
theorem la {f a c : Int} (hf : f = 1 ∨ f = 2 ∨ f = 3 ∨ f = 4) (ha : 0 ≤ a ∧ a ≤ 65535) (hc : 0 ≤ c ∧ c ≤ 65535) : bK ⟨f,a,c,0,0,[],[],0,0⟩ = 0 := by
  refine (cU (by unfold bO; exact decide_eq_true (by simp only; omega))).2 ⟨ha,hc,by simp,by simp,fun h => ?_,fun h => ?_,fun _ => rfl,fun _ => rfl,fun _ => ⟨rfl,rfl⟩, ?_, ?_⟩
  · simp only at h; omega
  · simp only at h; omega
  · simp only; rw [if_neg (by omega),if_neg (by omega)]; rfl
  · simp only; rw [if_neg (by omega),if_neg (by omega),if_neg (by omega)]; rfl
theorem yL {a : Int}{b : List Bool} (ha : 0 ≤ a ∧ a ≤ 65535) (h : b.length = 1) : bK ⟨5,a,0,0,0,b,[],0,0⟩ = 0 :=
  (cU rfl).2 ⟨ha,by simp,by simp,by simp,fun h => by simp at h,fun _ => rfl,fun _ => rfl,fun _ => rfl,fun _ => ⟨rfl,rfl⟩,by simpa using h,by simp⟩
theorem tc {a : Int}{b : List UInt16} (ha : 0 ≤ a ∧ a ≤ 65535) (h : b.length = 1) : bK ⟨6,a,0,0,0,[],b,0,0⟩ = 0 :=
  (cU rfl).2 ⟨ha,by simp,by simp,by simp,fun h => by simp at h,fun _ => rfl,fun _ => rfl,fun _ => rfl,fun _ => ⟨rfl,rfl⟩,by simp,by simpa using h⟩
theorem wU {a c : Int}{b : List Bool} (ha : 0 ≤ a ∧ a ≤ 65535) (hc : 0 ≤ c ∧ c ≤ 2040) (h : (b.length : Int) = c) : bK ⟨15,a,c,0,0,b,[],0,0⟩ = 0 :=
  (cU rfl).2 ⟨ha,by simp only; omega,by simp,by simp,fun h => by simp at h,fun h => by simp at h,fun _ => rfl,fun _ => rfl,fun _ => ⟨rfl,rfl⟩,by simp; exact ⟨h,by omega⟩,by simp⟩
theorem rx {a c : Int}{b : List UInt16} (ha : 0 ≤ a ∧ a ≤ 65535) (hc : 0 ≤ c ∧ c ≤ 127) (h : (b.length : Int) = c) : bK ⟨16,a,c,0,0,[],b,0,0⟩ = 0 :=
  (cU rfl).2 ⟨ha,by simp only; omega,by simp,by simp,fun h => by simp at h,fun h => by simp at h,fun _ => rfl,fun _ => rfl,fun _ => ⟨rfl,rfl⟩,by simp,by simp; exact ⟨h,by omega⟩⟩
theorem o6 {α : Type} (l : List α) {d n : Int} (hd : 0 ≤ d) (hn : 0 ≤ n) (h : d + n ≤ (l.length : Int)) : (((l.drop d.toNat).take n.toNat).length : Int) = n := by
  rw [List.length_take,List.length_drop]; omega
end
section
variable {F : Int}{l : List TWindow}{q : TRequest}{v : List Int}
def PartR (q : TRequest) (p : TPart) : Prop := bK p.request = 0 ∧ (p.write = true → p.request.fn = 5 ∨ p.request.fn = 6 ∨ p.request.fn = 15 ∨ p.request.fn = 16) ∧
  (p.write = false → 1 ≤ p.request.count ∧ ((p.request.fn = q.fn ∧ (q.fn = 1 ∨ q.fn = 2 ∨ q.fn = 3 ∨ q.fn = 4)) ∨ (p.request.fn = 3 ∧ (q.fn = 22 ∨ q.fn = 23))))
theorem uf (hq : q.count ≤ 25 ∧ q.bits.length ≤ 25 ∧ q.vals.length ≤ 25) {p : TPart} (h : p ∈ (splitP F l q).1) : PartR q p := by
  have hs := ig hq p h
  obtain ⟨hpf,hc0,_,ha0,ha1,_⟩ := th h
  obtain ⟨hs1,hs2,hs3⟩ := hs
  by_cases h0 : ¬ bL F l q = 0
  · rw [uW h0] at h; cases h
  have h0 : bL F l q = 0 := Decidable.not_not.1 h0
  obtain ⟨hno,hcy,hpy,hle⟩ := gx h0
  have hr := eL hcy
  obtain ⟨hh,hsq⟩ := cR hr
  have hb := hsq.bits
  have hv := hsq.vals
  rw [eJ h0] at h
  simp only at h
  by_cases h22 : q.fn = 22
  · obtain ⟨o1,o2,o3,_⟩ := jz (l := l) (q := q) (by omega) hpy
    unfold fj at h
    rw [if_pos h22] at h
    simp only [List.mem_cons,List.not_mem_nil,or_false] at h
    rcases h with rfl|rfl
    · exact ⟨la (by omega) (by simp only at ha0 ha1; omega) (by omega),fun h => (by cases h),fun _ => ⟨by simp only; omega,.inr ⟨rfl,.inl h22⟩⟩⟩
    · exact ⟨tc (by simp only at ha0 ha1; omega) rfl,fun _ => .inr (.inl rfl),fun h => (by cases h)⟩
  · rw [eA h22] at h
    rcases List.mem_append.1 h with h|h
    · obtain ⟨x,hx,rfl⟩ := List.mem_map.1 h
      obtain ⟨i,hi⟩ := List.getElem?_of_mem hx
      obtain ⟨c1,c2,c3,c4,c5,c15,c16,c23⟩ := rO hcy hi
      refine ⟨?_,fun _ => ?_,fun h => by rw [km] at h; cases h⟩
      · by_cases k5 : q.fn = 5
        · rw [kw k5]; rw [if_pos k5] at hb; exact yL (by omega) hb
        by_cases k6 : q.fn = 6
        · rw [kv k6]; rw [if_pos (by omega)] at hv; exact tc (by omega) hv
        by_cases k15 : q.fn = 15
        · have hc25 := n5 hq hx
          obtain ⟨d1,d2,d3,_⟩ := c15 k15
          rw [jN k15]; exact wU (by omega) (by omega) (o6 _ (by omega) (by omega) (by omega))
        by_cases k16 : q.fn = 16
        · have hc25 := n5 hq hx
          obtain ⟨d1,d2,d3,_⟩ := c16 k16
          rw [jM k16]; exact rx (by omega) (by omega) (o6 _ (by omega) (by omega) (by omega))
        · have hc25 := n5 hq hx
          obtain ⟨d1,d2,_⟩ := c23 (by omega)
          rw [jL (by omega)]; exact rx (by omega) (by omega) (o6 _ (by omega) (by omega) (by omega))
      · unfold dc
        repeat' split
        all_goals simp
    · obtain ⟨x,hx,rfl⟩ := List.mem_map.1 h
      have hc25 := vm hq hx
      have h1 : 1 ≤ x.count ∧ (q.fn = 1 ∨ q.fn = 2 ∨ q.fn = 3 ∨ q.fn = 4 ∨ q.fn = 23) := by
        by_cases k1 : q.fn = 1 ∨ q.fn = 2 ∨ q.fn = 3 ∨ q.fn = 4
        · rw [(jc (l := l) k1).2.1] at hx; have := mF hx; omega
        by_cases k23 : q.fn = 23
        · rw [(gX (l := l) k23).2.1] at hx; have := mF hx; omega
        · exfalso
          by_cases k5 : q.fn = 5 ∨ q.fn = 6
          · rw [(gL (l := l) k5).2.1] at hx; cases hx
          by_cases k15 : q.fn = 15 ∨ q.fn = 16
          · rw [(gt (l := l) k15).2.1] at hx; cases hx
          · rw [(ik (l := l) (q := q) (by omega)).2.1] at hx; cases hx
      obtain ⟨h1,hqf⟩ := h1
      unfold cN at ha0 ha1
      simp only at ha0 ha1
      refine ⟨?_,fun h => (by cases h),fun _ => ⟨h1, ?_⟩⟩
      · unfold cN
        by_cases k23 : q.fn = 23
        · rw [if_pos k23]; exact la (by omega) (by omega) (by omega)
        · rw [if_neg k23]; exact la (by omega) (by omega) (by omega)
      · unfold cN
        by_cases k23 : q.fn = 23
        · rw [if_pos k23]; exact .inr ⟨rfl,.inr k23⟩
        · rw [if_neg k23]; exact .inl ⟨rfl,by omega⟩
theorem vX {L : List Int}{p : TPart} (hs : SmallP p) (hp : PartR q p) (a : Nat) : bI (cV L p a).1 = 0 ∧ (cV L p a).1.fn = p.request.fn := by
  obtain ⟨hr,hw,hrd⟩ := hp
  obtain ⟨hs1,hs2,hs3⟩ := hs
  obtain ⟨hh,hsp⟩ := cR hr
  have hf : p.request.fn = 1 ∨ p.request.fn = 2 ∨ p.request.fn = 3 ∨ p.request.fn = 4 ∨ p.request.fn = 5 ∨ p.request.fn = 6 ∨ p.request.fn = 15 ∨ p.request.fn = 16 := by
    cases hx : p.write with
    | true => have := hw hx; omega
    | false => have := hrd hx; omega
  have hc0 := hsp.wc
  by_cases k1 : p.request.fn = 1 ∨ p.request.fn = 2
  · have hl := eE ip 2 L a p.request.count.toNat
    rw [mv k1]; exact ⟨(vr hr k1 (by omega) (by omega)).1,rfl⟩
  by_cases k3 : p.request.fn = 3 ∨ p.request.fn = 4
  · have hl := eE bV 65536 L a p.request.count.toNat
    rw [mu k3]; exact ⟨(vq hr (by omega) (by omega) (by omega)).1,rfl⟩
  by_cases k5 : p.request.fn = 5 ∨ p.request.fn = 6
  · have h5 := (n8 hr (by omega)).1
    have z := hsp.zm (by omega)
    rw [hsp.zs (by omega),u16z.2 z.1,u16z.2 z.2] at h5
    rw [so k5]; exact ⟨h5,rfl⟩
  · rw [pe (by omega)]; exact ⟨(tn hr (by omega)).1,rfl⟩
theorem v7 {L : List Int} : ∀ {ps : List TPart}{a : Nat},(∀ p ∈ ps,SmallP p ∧ PartR q p) → anyJ ps (ansGo L true ps a) = false
  | [],_,_ => rfl
  | p :: t,a,h => by
    obtain ⟨h1,h2⟩ := h p List.mem_cons_self
    obtain ⟨g1,g2⟩ := vX h1 h2 (L := L) a
    rw [ansGo,if_pos rfl,anyJ,v7 fun x hx => h x (List.mem_cons_of_mem _ hx)]
    unfold mw
    rw [g1,g2]; simp
theorem x5 {L : List Int} (hf : q.fn = 1 ∨ q.fn = 2) : ∀ {ps : List TPart}{a : Nat},(∀ p ∈ ps,SmallP p ∧ PartR q p) → ((bitsJ ps (ansGo L true ps a)).length : Int) = gc ps ∧ valsJ ps (ansGo L true ps a) = []
  | [],_,_ => ⟨rfl,rfl⟩
  | p :: t,a,h => by
    obtain ⟨h1,h2,hw,hrd⟩ := h p List.mem_cons_self
    obtain ⟨g1,g2⟩ := x5 hf (L := L) (a := (cV L p a).2) fun x hx => h x (List.mem_cons_of_mem _ hx)
    rw [ansGo,if_pos rfl,bitsJ,valsJ,gc,g2,List.length_append]
    cases hx : p.write with
    | true => rw [if_pos rfl,if_pos rfl,if_pos rfl]; exact ⟨by simp only [List.length_nil]; omega,rfl⟩
    | false =>
      have := hrd hx
      have hl := eE ip 2 L a p.request.count.toNat
      have hb := mv (L := L) (p := p) (a := a) (by omega)
      rw [hb] at g1
      rw [if_neg (by decide),if_neg (by decide),if_neg (by decide),hb]
      exact ⟨by simp only at g1 ⊢; omega,rfl⟩
theorem x4 {L : List Int} (hf : q.fn = 3 ∨ q.fn = 4 ∨ q.fn = 23) : ∀ {ps : List TPart}{a : Nat},(∀ p ∈ ps,SmallP p ∧ PartR q p) → ((valsJ ps (ansGo L true ps a)).length : Int) = gc ps ∧ bitsJ ps (ansGo L true ps a) = []
  | [],_,_ => ⟨rfl,rfl⟩
  | p :: t,a,h => by
    obtain ⟨h1,h2,hw,hrd⟩ := h p List.mem_cons_self
    obtain ⟨g1,g2⟩ := x4 hf (L := L) (a := (cV L p a).2) fun x hx => h x (List.mem_cons_of_mem _ hx)
    rw [ansGo,if_pos rfl,bitsJ,valsJ,gc,g2,List.length_append]
    cases hx : p.write with
    | true => rw [if_pos rfl,if_pos rfl,if_pos rfl]; exact ⟨by simp only [List.length_nil]; omega,rfl⟩
    | false =>
      have := hrd hx
      have hl := eE bV 65536 L a p.request.count.toNat
      have hb := mu (L := L) (p := p) (a := a) (by omega)
      rw [hb] at g1
      rw [if_neg (by decide),if_neg (by decide),if_neg (by decide),hb]
      exact ⟨by simp only at g1 ⊢; omega,rfl⟩
theorem u9 {L : List Int} (hr : bK q = 0) (hq : q.count ≤ 25 ∧ q.bits.length ≤ 25 ∧ q.vals.length ≤ 25) {R : TReply} (hR : R = dt F l q (ansGo L true (splitP F l q).1 0)) :
    R.fn = q.fn ∧ bI R = 0 ∧ (bL F l q ≠ 0 → R.code = bL F l q) ∧ (bL F l q = 0 → dP q.fn = true → R.code = 4) ∧ (bL F l q = 0 → dP q.fn = false → R.code = 0 ∧ dY R q) := by
  by_cases h0 : ¬ bL F l q = 0
  · have hb : 1 ≤ bL F l q ∧ bL F l q ≤ 255 := by
      unfold bL at h0 ⊢
      repeat' split
      all_goals first|omega|(exfalso; simp_all)
    rw [pP h0] at hR
    obtain ⟨m1,m2,m3⟩ := tl hr hb
    subst hR
    exact ⟨m3,m1,fun _ => mU hb,fun h => absurd h h0,fun h => absurd h h0⟩
  have h0 : bL F l q = 0 := Decidable.not_not.1 h0
  by_cases h8 : dP q.fn = true
  · rw [nr h0 h8] at hR
    obtain ⟨m1,m2,m3⟩ := tl hr (c := 4) (by omega)
    subst hR
    exact ⟨m3,m1,fun h => absurd h0 h,fun _ _ => mU (by omega),fun _ h => by rw [h8] at h; cases h⟩
  have h8 : dP q.fn = false := by simpa using h8
  obtain ⟨P,hP⟩ : ∃ z,z = (splitP F l q).1 := ⟨_,rfl⟩
  have hps : ∀ p ∈ P,SmallP p ∧ PartR q p := fun p hp => by rw [hP] at hp; exact ⟨ig hq p hp,uf hq hp⟩
  have hlen : (ansGo L true P 0).length = P.length := st
  have hany := v7 hps (L := L) (a := 0)
  have hcj : gP (ansGo L true P 0) = none := Br fun j x hj hx => by unfold nzJ; rw [qg _ (List.mem_of_getElem? hx)]; rfl
  have hsum := vj (F := F) (l := l) (q := q) (by rw [jx,h0,h8]; rfl)
  rw [← hP] at hsum
  obtain ⟨hn8,hn17,hsR,hsW,hs23,hs22,hs5⟩ := hsum
  have htk : (ansGo L true P 0).take P.length = ansGo L true P 0 := List.take_of_length_le (by omega)
  rw [rZ h0 h8 (by rw [← hP,htk]; exact hcj) (by rw [← hP]; omega) (by rw [← hP,htk]; exact hany),← hP,htk] at hR
  obtain ⟨hh,hsq⟩ := cR hr
  have hfo := hasF_of hh
  have key : ∀ {X : TReply},R = X → X.fn = q.fn → X.code = 0 → bI X = 0 ∧ dY X q → R.fn = q.fn ∧ bI R = 0 ∧ (bL F l q ≠ 0 → R.code = bL F l q) ∧ (bL F l q = 0 → dP q.fn = true → R.code = 4) ∧ (bL F l q = 0 → dP q.fn = false → R.code = 0 ∧ dY R q) := by
    intro X e1 e2 e3 e4
    subst e1
    exact ⟨e2,e4.1,fun h => absurd h0 h,fun _ h => by (rw [h8] at h; cases h),fun _ _ => ⟨e3,e4.2⟩⟩
  by_cases k5 : q.fn = 5
  · have h5 := n8 hr (by omega)
    have z := hsq.zm (by omega)
    have hv := hsq.vals
    rw [if_neg (by omega),if_neg (by omega),if_neg (by omega)] at hv
    rw [hsq.zs (by omega),u16z.2 z.1,u16z.2 z.2,List.eq_nil_of_length_eq_zero hv] at h5
    exact key (hR.trans (yu k5)) rfl rfl h5
  by_cases k6 : q.fn = 6
  · have h5 := n8 hr (by omega)
    have z := hsq.zm (by omega)
    have hb := hsq.bits
    rw [if_neg (by omega),if_neg (by omega)] at hb
    rw [hsq.zs (by omega),u16z.2 z.1,u16z.2 z.2,List.eq_nil_of_length_eq_zero hb] at h5
    exact key (hR.trans (yt k6)) rfl rfl h5
  by_cases k15 : q.fn = 15 ∨ q.fn = 16
  · exact key (hR.trans (wk k15)) rfl rfl (tn hr k15)
  by_cases k22 : q.fn = 22
  · have h5 := n8 hr (by omega)
    have hb := hsq.bits
    have hv := hsq.vals
    rw [if_neg (by omega),if_neg (by omega)] at hb
    rw [if_neg (by omega),if_neg (by omega),if_neg (by omega)] at hv
    rw [hsq.zs (by omega),List.eq_nil_of_length_eq_zero hb,List.eq_nil_of_length_eq_zero hv] at h5
    exact key (hR.trans (wj k22)) rfl rfl h5
  by_cases k1 : q.fn = 1 ∨ q.fn = 2
  · obtain ⟨s1,s2⟩ := x5 k1 hps (L := L) (a := 0)
    have hc := (hsR (by omega)).1
    rw [s2,qV (by omega) (by rw [List.length_nil]; omega)] at hR
    exact key hR rfl rfl (vr hr k1 (by omega) (by omega))
  · have k3 : q.fn = 3 ∨ q.fn = 4 ∨ q.fn = 23 := by omega
    obtain ⟨s1,s2⟩ := x4 k3 hps (L := L) (a := 0)
    have hc : gc P = q.count := by
      by_cases k23 : q.fn = 23
      · exact (hs23 k23).1
      · exact (hsR (by omega)).1
    rw [s2,qV (by omega) (by rw [List.length_nil]; omega)] at hR
    exact key hR rfl rfl (vq hr k3 (by omega) (by omega))
end
theorem zU {b : List UInt8} (h : 1 < b.length) {e : UInt8} (he : b[1]? = some e) : jA b = ((e.toNat : Nat) : Int) := by unfold jA; rw [if_pos h,List.getD_eq_getElem?_getD,he]; rfl
theorem zV {b : List UInt8} (h : ¬ 1 < b.length) : jA b = 0 := by unfold jA; rw [if_neg h]
section
variable {b : List UInt8}{q : TRequest}{e : UInt8} (h0 : b.getD 0 0 = e)
include h0
variable (h : ¬ 128 ≤ ((e.toNat : Nat) : Int))
include h
end
set_option maxRecDepth 10000
set_option maxHeartbeats 1000000
theorem jt (r : TReply) (hr : r.bits.length ≤ 140737488351232 ∧ r.vals.length ≤ 140737488351232 ∧ r.data.length ≤ 140737488351232) (hg0 : bI r = 0) :
    T Tryz.prog 36 [PV.f (aK r)] 0 [] (Ret (PV.ref 0 0 none) 1 [(0,oB false 1 az (cQ r))]) := by
 refine bn aF (n := 70) (rs := [.tmp 2]) Tryz.func36 Z Z Z Z (nb Z) ?_
 intro c N hk
 have hlr : cQ r = cQ r := rfl
 have hgf := tq hg0
 refine sr (qo N Z (cu Z Z ?_))
 let Y : Nat × Pv.Obj := (0,.obj (bm r))
 refine qa N Z Z (aE [(1,PV.ptr 0 0)] [Y] 1 ⟨Z,trivial⟩ Z Z (re (sr (xp N 2 [.o 2] [] [(5,pI r.fn)] (qo N Z (nZ aD tab_5 Z Z Z ?_))))))
 refine qo N Z (bM (f := az) [bz r.fn] tab_38 Z tab_5 ⟨Z,by decide⟩ (by decide) Z Z Z Z ?_)
 let Y0 : Nat × Pv.Obj := (1,oB true 1 az [bz r.fn])
 refine qa N Z Z (aE [(1,PV.ptr 0 0),(3,PV.ref 1 0 none)] [Y0,Y] 2 ⟨Z,Z,trivial⟩ Z Z (re (an (sr (xp N 3 [.o 3] [] [(10,pB (!decide (r.code = 0)))] ?_)))))
 let Y1 : ah := [(0,oB false 1 az (cQ r))]
 let Ya1 : Nat × Pv.Obj := (2,oB false 1 az (cQ r))
 let Ya3 : aI := [(2,PV.ref 2 0 none)]
 refine re (av Z (fun c1 => ?_) (fun c1 => ?_))
 ·have c1_ := c1
  try simp only [sB] at c1
  refine sr (xp N 2 [.o 2] [] [(12,pI r.fn)] ?_)
  obtain ⟨fnn,hfn⟩ : ∃ n : Nat,r.fn = (n : Int) := ⟨r.fn.toNat,by omega⟩
  have hfo := rQ hgf
  have hfo2 : fnn ||| 128 = fnn + 128 := by rw [hfn] at hfo; simpa using hfo
  refine bh (s := 12) Z (congrArg pI (show r.fn = ((fnn : Nat) : Int) by exact hfn)) (qo N Z (x7 (a := fnn) (b := 128) Z Z (by omega) (by omega) (by omega) ?_))
  refine qo N Z (u5 (a := fnn ||| 128) aD tab_5 Z Z Z (by omega) ?_)
  refine xp N 2 [.o 2] [] [(16,pI r.code)] (qo N Z (nZ aD tab_5 Z Z Z ?_))
  refine qo N Z (bM (f := az) [UInt8.ofNat (fnn ||| 128),bz r.code] tab_38 Z tab_5 ⟨Z,by decide⟩ (by decide) Z Z Z Z ?_)
  refine qa N Z Z (aE Ya3 [(2,oB true 1 az [UInt8.ofNat (fnn ||| 128),bz r.code]),Y0,Y] 3 ⟨Z,trivial⟩ Z Z (re (fN (n := 2) Z (eN (H' := [Ya1,Y0,Y]) (congrArg (fun z => ([(2,oB false 1 az z),Y0,Y] : ah)) (show [UInt8.ofNat (fnn ||| 128),bz r.code] = cQ r by (rw [xv (by first|assumption|simpa using c2_),hfn]; rfl))) (w_ret (af ?_))))))
  exact bB (nx1 := 1) (H1 := Y1) [(0,2)] (ret_tmp Z ret_nil) Z (by decide) ⟨⟨_,_,Z,Z,Z,Z⟩,trivial⟩ (by decide) Z ⟨Z,Z,Z⟩
 have c1_ := c1
 try simp only [sB] at c1
 refine aw (ak (an (an ?_)))
 have h0 : r.code = 0 := by exact c1
 have hsh : ShapeA r := by rcases goodR_zero hg0 with ⟨h,_⟩|⟨_,_,h⟩; exact absurd h0 h; exact h
 have hcf : bO r.fn = true := by rcases goodR_zero hg0 with ⟨h,_⟩|⟨_,h,_⟩; exact absurd h0 h; exact h
 have hcf2 := hasF_of hcf
 have h5b := hsh.ob
 have h6v := hsh.ov
 have hlb := hsh.lb
 have hlv := hsh.lv
 have hld := hsh.ld
 let Ya2 : Nat × Pv.Obj := (3,oB false 1 az (cQ r))
 let Ya4 : aI := [(2,PV.ref 3 0 none)]
 refine bk (xp N 2 [.o 2] [] [(20,pI r.fn)] (re (aP (xo N 21 [[.o 2],[.o 2]] [] ((decide (r.fn = 1)) || (decide (r.fn = 2))) (av Z (fun c3 => ?_) (fun c3 => ?_))))))
 ·have c3_ := c3
  try simp only [sB,Bool.or_eq_true,Bool.or_eq_false_iff] at c3
  refine sr (xp N 3 [.o 3] [] [(24,PV.ref 1 0 none),(26,pS 1 false ar r.bits)] (qo N Z (aN 3 (PV.ref 2 0 none) [(2,oB true 1 az (packL r.bits)),Y0,Y] [] (iV r.bits false (by omega)) ?_)))
  let Y9 : Nat × Pv.Obj := (2,oB false 1 az (packL r.bits))
  let Y6 : ah := [(3,oB true 1 az ([bz r.fn] ++ cY (packL r.bits))),Y9,Y]
  refine qo N Z (aN 4 (PV.ref 3 0 none) Y6 [1] (eh [bz r.fn] true (packL r.bits) false (by (simp; done)) (by (simp; omega))) ?_)
  refine qa N Z Z (aE Ya4 Y6 4 ⟨Z,trivial⟩ Z Z (re (fN (n := 3) Z (eN (H' := [Ya2,Y9,Y]) (congrArg (fun z => ([(3,oB false 1 az z),Y9,Y] : ah)) (show [bz r.fn] ++ cY (packL r.bits) = cQ r by (rw [mh h0,Bv (by omega)]; simp; done))) (w_ret (am (af ?_)))))))
  exact bB (nx1 := 1) (H1 := Y1) [(0,3)] (ret_tmp Z ret_nil) Z (by decide) ⟨⟨_,_,Z,Z,Z,Z⟩,trivial⟩ (by decide) Z ⟨Z,Z,Z⟩
 have c3_ := c3
 try simp only [sB,Bool.or_eq_true,Bool.or_eq_false_iff] at c3
 refine xo N 29 [[.o 2],[.o 2],[.o 2]] [] ((decide (r.fn = 3)) || ((decide (r.fn = 4)) || (decide (r.fn = 23)))) (av Z (fun c6 => ?_) (fun c6 => ?_))
 ·have c6_ := c6
  try simp only [sB,Bool.or_eq_true,Bool.or_eq_false_iff] at c6
  refine sr (xp N 3 [.o 3] [] [(33,PV.ref 1 0 none),(35,pS 1 false aj r.vals)] (qo N Z (aN 3 (PV.ref 2 0 none) [(2,oB true 1 az (bW r.vals)),Y0,Y] [] (ga r.vals false (by omega)) ?_)))
  let Y8 : Nat × Pv.Obj := (2,oB false 1 az (bW r.vals))
  let Y5 : ah := [(3,oB true 1 az ([bz r.fn] ++ cY (bW r.vals))),Y8,Y]
  refine qo N Z (aN 4 (PV.ref 3 0 none) Y5 [1] (eh [bz r.fn] true (bW r.vals) false (by (simp; done)) (by (simp; omega))) ?_)
  refine qa N Z Z (aE Ya4 Y5 4 ⟨Z,trivial⟩ Z Z (re (fN (n := 3) Z (eN (H' := [Ya2,Y8,Y]) (congrArg (fun z => ([(3,oB false 1 az z),Y8,Y] : ah)) (show [bz r.fn] ++ cY (bW r.vals) = cQ r by (rw [mh h0,Bu (by omega)]; simp; done))) (w_ret (am (af ?_)))))))
  exact bB (nx1 := 1) (H1 := Y1) [(0,3)] (ret_tmp Z ret_nil) Z (by decide) ⟨⟨_,_,Z,Z,Z,Z⟩,trivial⟩ (by decide) Z ⟨Z,Z,Z⟩
 have c6_ := c6
 try simp only [sB,Bool.or_eq_true,Bool.or_eq_false_iff] at c6
 refine xo N 38 [[.o 2],[.o 2]] [] ((decide (r.fn = 15)) || (decide (r.fn = 16))) (av Z (fun c8 => ?_) (fun c8 => ?_))
 ·have c8_ := c8
  try simp only [sB,Bool.or_eq_true,Bool.or_eq_false_iff] at c8
  let Y2 : Nat × Pv.Obj := (2,oB false 1 az ([bz r.fn] ++ aJ r.at_))
  let Y3 : Nat × Pv.Obj := (1,oB false 1 az [bz r.fn])
  let Y7 : Nat × Pv.Obj := (2,oB true 1 az ([bz r.fn] ++ aJ r.at_))
  let Ya : Nat × Pv.Obj := (3,oB true 1 az (([bz r.fn] ++ aJ r.at_) ++ aJ r.count))
  refine an (cK N (xq 3 [.o 3] [] (xk [(41,PV.ref 1 0 none),(43,pI r.at_)] [] [Y0] [Y7,Y3] [Y7,Y3,Y] (aN 3 (PV.ref 2 0 none) _ [] (co [bz r.fn] false r.at_ (by (simp; done))) ⟨Z,Z,Z⟩) (xq 2 [.o 2] [] (xk [(44,PV.ref 2 0 none),(46,pI r.count)] [] [Y7] [Ya,Y2] [Ya,Y2,Y3,Y] (aN 4 (PV.ref 3 0 none) _ [] (co ([bz r.fn] ++ aJ r.at_) false r.count (by (simp; done))) ⟨Z,Z,Z⟩) ?_)))))
  refine xq 1 [.o 1] [] (xe Ya4 (re (fN (n := 3) Z (eN (H' := [Ya2,Y2,Y3,Y]) (congrArg (fun z => ([(3,oB false 1 az z),Y2,Y3,Y] : ah)) (show ([bz r.fn] ++ aJ r.at_) ++ aJ r.count = cQ r by (rw [mh h0,zB (by omega)]; simp; done))) (w_ret ?_)))))
  refine am (af ?_)
  exact bB (nx1 := 1) (H1 := Y1) [(0,3)] (ret_tmp Z ret_nil) Z (by decide) ⟨⟨_,_,Z,Z,Z,Z⟩,trivial⟩ (by decide) Z ⟨Z,Z,Z⟩
 have c8_ := c8
 try simp only [sB,Bool.or_eq_true,Bool.or_eq_false_iff] at c8
 refine sr (qo N Z (bF Z Z ?_))
 refine ae N Z Z (av Z (fun c9 => ?_) (fun c9 => ?_))
 ·have c9_ := c9
  try simp only [sB] at c9
  let Ya0 : ah := [(2,oB true 1 az ([bz r.fn] ++ cY r.data)),Y]
  refine sr (xp N 3 [.o 3] [] [(50,PV.ref 1 0 none),(52,pS 1 false az r.data)] (qo N Z (aN 3 (PV.ref 2 0 none) Ya0 [1] (eh [bz r.fn] true r.data false (by (simp; done)) (by omega)) ?_)))
  refine qa N Z Z (aE Ya3 Ya0 3 ⟨Z,trivial⟩ Z Z (re (fN (n := 2) Z (eN (H' := [Ya1,Y]) (congrArg (fun z => ([(2,oB false 1 az z),Y] : ah)) (show [bz r.fn] ++ cY r.data = cQ r by (rw [mh h0,zA (by omega)]; simp; done))) (w_ret (am (af ?_)))))))
  exact bB (nx1 := 1) (H1 := Y1) [(0,2)] (ret_tmp Z ret_nil) Z (by decide) ⟨⟨_,_,Z,Z,Z,Z⟩,trivial⟩ (by decide) Z ⟨Z,Z,Z⟩
 have c9_ := c9
 try simp only [sB] at c9
 refine aw (aG (ak (sr (xp N 14 [.o 14] [] [(55,pI r.fn),(57,pI r.at_),(59,pI r.sub),(61,pS 1 false ar r.bits),(63,pS 1 false aj r.vals),(65,au r.and_),(67,au r.or_)] (qo N Z (bX bc Z Z (br Z aD Z Z Z (nb Z) (br Z aD Z Z Z (nb Z) (br Z aD Z Z Z (nb Z) (br Z bT Z Z Z (nb Z) (br Z bf Z Z Z (nb Z) (br Z bE Z Z Z (nb Z) (br Z bE Z Z Z (nb Z) (fX (cs' := [pI r.fn,pI r.at_,pI 0,pI 0,pI r.sub,pS 1 false ar r.bits,pS 1 false aj r.vals,au r.and_,au r.or_]) Z ?_))))))))))))))
 let Y4 : ah := [(2,oB false 1 az (cx (⟨r.fn,r.at_,0,0,r.sub,r.bits,r.vals,r.and_,r.or_⟩ : TRequest))),Y0,Y]
 refine qo N Z (aN 3 (PV.ref 2 0 none) Y4 [] (lE (⟨r.fn,r.at_,0,0,r.sub,r.bits,r.vals,r.and_,r.or_⟩ : TRequest) (by show r.bits.length ≤ _; omega) (by show r.vals.length ≤ _; omega) (by intro h; have := h5b h; show 1 ≤ r.bits.length; omega) (by intro h; have := h6v h; show 1 ≤ r.vals.length; omega)) ?_)
 refine qa N Z Z (aE Ya3 Y4 3 ⟨Z,trivial⟩ Z Z (re (eN (H' := [Ya1,Y0,Y]) (congrArg (fun z => ([(2,oB false 1 az z),Y0,Y] : ah)) (show cx (⟨r.fn,r.at_,0,0,r.sub,r.bits,r.vals,r.and_,r.or_⟩ : TRequest) = cQ r by (rw [vz hg0 h0 (by omega)]; done))) (w_ret ?_))))
 exact bB (nx1 := 1) (H1 := Y1) [(0,2)] (ret_tmp Z ret_nil) Z (by decide) ⟨⟨_,_,Z,Z,Z,Z⟩,trivial⟩ (by decide) Z ⟨Z,Z,Z⟩
theorem mJ (r : TReply) (hr : r.bits.length ≤ 140737488351232 ∧ r.vals.length ≤ 140737488351232 ∧ r.data.length ≤ 140737488351232) :
    T Tryz.prog 12 [PV.f (aK r)] 0 [] (Ret (PV.tup [PV.ref 0 0 none,pI (bI r)]) 1 [(0,oB false 1 az (il r))]) := by
 refine bn aF (n := 12) (rs := [.tmp 2,.tmp 3]) Tryz.func12 Z Z Z Z (nb Z) ?_
 intro c N hk
 let Y : Nat × Pv.Obj := (0,.obj (bm r))
 refine sr (xm N 3 [.o 3] [] [(1,PV.ptr 0 0)] 1 [Y] (re (an (sr (xp N 1 [.o 1] [] [(5,PV.f (aK r))] ?_)))))
 refine qo N Z (aO Z Z Z (gi r (by omega)) Z ?_)
 refine ae N Z Z (sr (qm N Z Z (qo N Z (el Z Z ?_))))
 let Y0 : ah := [(1,oB false 1 az (il r)),Y]
 let Y2 : ah := [(0,oB false 1 az (il r))]
 refine re (av Z (fun c1 => ?_) (fun c1 => ?_))
 ·have c1_ := c1
  try simp only [sB] at c1
  refine sr (xp N 3 [.o 3] [] [(2,aH),(3,pI (bI r))] (re (dD (s := 2) (sz := 1) Z (fN (n := 1) Z (eN (H' := Y0) (congrArg (fun z => ([(1,oB false 1 az z),Y] : ah)) (show ([] : List UInt8) = il r by rw [tp (by first|assumption|simpa using c1_)])) ?_)))))
  refine w_ret (af ?_)
  exact bB (nx1 := 1) (H1 := Y2) [(0,1)] (ret_tmp Z (ret_tmp Z ret_nil)) Z (by decide) ⟨⟨_,_,Z,Z,Z,Z⟩,trivial⟩ (by decide) Z ⟨Z,Z,Z⟩
 have c1_ := c1
 try simp only [sB] at c1
 refine aw (ak (an ?_))
 have hg0 : bI r = 0 := by exact c1
 have hlr := nq hg0
 let Y1 : ah := [(1,oB false 1 az (cQ r)),Y]
 refine bk (xp N 1 [.o 1] [] [(10,PV.f (aK r))] (qo N Z (aN 2 (PV.ref 1 0 none) Y1 [] (jt r (by omega) (by omega)) ?_)))
 refine qa N Z Z (qa N Z Z (aE [(2,PV.ref 1 0 none),(3,pI 0)] Y1 2 ⟨Z,Z,trivial⟩ Z Z (re (aq (s := 3) Z (congrArg pI (show 0 = (bI r) by simp [*])) (eN (H' := Y0) (congrArg (fun z => ([(1,oB false 1 az z),Y] : ah)) (show cQ r = il r by rw [hlr])) (w_ret ?_))))))
 exact bB (nx1 := 1) (H1 := Y2) [(0,1)] (ret_tmp Z (ret_tmp Z ret_nil)) Z (by decide) ⟨⟨_,_,Z,Z,Z,Z⟩,trivial⟩ (by decide) Z ⟨Z,Z,Z⟩
theorem vV (b : List UInt8) (n : Int) : (dh b n).length ≤ 8 * b.length := by
  unfold dh; split
  · rename_i h
    have h2 := of_decide_eq_true h
    simp; omega
  · simp
theorem kT (b : List UInt8) (cl_b : Bool) (n : Int) (hb : b.length ≤ 140737488355328) (hn : n ≤ 9223372036854775807) (hd : b.length ≤ 17592186043904 ∨ n ≤ 140737488351232) :
    T Tryz.prog 38 [pS 1 cl_b az b,pI n] 0 [] (Ret (PV.tup [pS 1 false ar (dh b n),pB (di b n)]) 0 []) := by
 refine bn aF (n := 53) (rs := [.tmp 4,.tmp 5]) Tryz.func38 Z Z Z Z (nb Z) ?_
 intro c N hk
 refine sr (xp N 2 [.o 2] [] [] (re (an (sr (xp N 3 [.o 3] [] [(11,pB (decide (n < 0)))] ?_)))))
 refine bS aF N Z Z Z (fun g1 => ?_) (fun g1 => ?_)
 ·have g1' := g1
  try simp only [sB] at g1'
  obtain ⟨kn,hkn⟩ : ∃ kn : Nat,n = (kn : Int) := ⟨n.toNat,by omega⟩
  refine bh (s := 1) Z (congrArg pI (show n = ((kn : Nat) : Int) by exact hkn)) (qm N Z Z (bh (s := 11) Z (congrArg pB g1) (xp N 6 [.o 1,.c (pN b.length),.o 4] [cC az b,bu (8 * ((b.length : Nat) : Int))] [(18,pB (decide (((8 * b.length : Nat) : Int) < ((kn : Nat) : Int))))] ?_ (hc := ⟨lenC_ok _ _,by unfold bu; (omega),trivial⟩))))
  refine bS aF N Z Z Z (fun g2 => ?_) (fun g2 => ?_)
  ·have g2' := g2
   try simp only [sB] at g2'
   refine qm N Z Z (bh (s := 18) Z (congrArg pB g2) (xp N 3 [.c (pN b.length),.o 2] [cC az b,bu (((kn : Nat) : Int) + 7)] [(20,pN b.length),(22,pN (kn + 7))] ?_ (hc := ⟨lenC_ok _ _,by unfold bu; (omega),trivial⟩)))
   refine ry N Z Z Z Z (qo N Z (kB (a := kn + 7) (b := 8) Z Z (by omega) (by omega) (by omega) ?_))
   refine xp N 2 [.o 2] [] [(25,pB (!decide (((b.length : Nat) : Int) = (((kn + 7) / 8 : Nat) : Int))))] (re (av Z (fun c1 => ?_) (fun c1 => ?_)))
   ·try simp only [sB] at c1
    have eo : di b n = false := iJ (by omega)
    exact sr (qa N Z Z (ae N Z Z (dw (s := 4) (y := pS 1 false ar []) Z (ax 1 false) (aq (s := 4) Z (congrArg (fun z => pS 1 false ar z) (show ([] : List Bool) = (dh b n) by (simp [dh,eo]; done))) (aq (s := 5) Z (congrArg pB (show false = (di b n) by exact eo.symm)) (w_ret (af fp)))))))
   try simp only [sB] at c1
   have hlen : (kn + 7) / 8 = b.length := by omega
   have hbd : kn ≤ 8 * b.length := by omega
   refine aw (ak (sr (ae N Z Z (an (sr (ae N Z Z (aP (dD (s := 6) (sz := 1) Z (gf (fun (os : List Bool) (i : Nat) => i ≤ 8 * b.length ∧ os = (List.range (min i kn)).map (bitOf b) ∧ ∀ j,j < i → kn ≤ j → bitOf b j = false) (fun (os : List Bool) (i : Nat) => [(0,pS 1 cl_b az b),(1,pN kn),(6,PV.ref 0 0 none),(7,pN i)]) 1 (fun (os : List Bool) (i : Nat) => [(0,oB true 1 ar os)]) (fun (os : List Bool) (i : Nat) => 8 * b.length - i) (([] : List Bool)) (0) ?_ ⟨[(0,0)],by rw [hk]; decide,⟨⟨_,rfl,rfl,rfl⟩,⟨_,rfl,rfl,rfl⟩,⟨_,rfl,rfl,rfl⟩,⟨_,rfl,rfl,rfl⟩,trivial⟩,⟨⟨_,_,rfl,rfl,rfl,rfl⟩,trivial⟩,by rw [hk]; decide⟩ ?_)))))))))
   · exact ⟨Nat.zero_le _,by simp,fun j hj => by omega⟩
   ·intro os i hI
    obtain ⟨hi,ho,hz⟩ := hI
    have hol : os.length ≤ i := by rw [ho]; simp; omega
    refine an (sr (xp N 5 [.o 2,.c (pN b.length),.o 2] [cC az b,bu (8 * ((b.length : Nat) : Int))] [(30,pB (decide (((i : Nat) : Int) < ((8 * b.length : Nat) : Int))))] ?_ (hc := ⟨lenC_ok _ _,by unfold bu; (omega),trivial⟩)))
    refine re (av Z (fun c2 => ?_) (fun c2 => ?_))
    ·try simp only [sB] at c2
     refine aw (ak (an (aP (sr (qm N Z Z (qm N Z Z (qo N Z (kB (a := i) (b := 8) Z Z (by omega) (by omega) (by omega) ?_))))))))
     obtain ⟨e1,he1⟩ := bl b (i := i / 8) (by omega)
     refine qo N Z (cA (q := i / 8) (b := e1) (f := az) tab_38 Z tab_5 Z Z (by omega) Z he1 ?_)
     refine xp N 2 [.o 2] [] [(37,p8 e1),(38,pN i)] (qo N Z (l4 (a := i) (b := 8) Z Z (by omega) (by omega) (by omega) ?_))
     refine qo N Z (qw aD jR Z Z Z Z (by exact ⟨by omega,by show _ < (18446744073709551616 : Int); omega⟩) ?_)
     refine qo N Z (uX (a := e1) (i % 8) Z Z (by rfl) (by omega) ?_)
     refine qo N Z (u7 (a := e1 >>> UInt8.ofNat (i % 8)) (b := 1) Z Z ?_)
     refine qo N Z (rD (a := (e1 >>> UInt8.ofNat (i % 8)) &&& 1) (b := 1) Z Z ?_)
     refine ae N Z Z (sr (qm N Z Z (qm N Z Z (qo N Z (cZ Z Z ?_)))))
     refine re (av Z (fun c3 => ?_) (fun c3 => ?_))
     ·try simp only [sB] at c3
      refine bk (qm N Z Z (qm N Z Z (qo N Z (bM (f := ar) [decide ((e1 >>> UInt8.ofNat (i % 8)) &&& 1 = 1)] bT Z dE ⟨Z,by decide⟩ (by decide) Z Z Z Z ?_))))
      refine qo N Z (bZ (f := ar) (l := os) (xs := [decide ((e1 >>> UInt8.ofNat (i % 8)) &&& 1 = 1)]) bT Z dE ⟨Z,by decide,by decide⟩ (da bT Z (ct (f := ar) Z Z)) Z Z (by (simp; omega)) ?_)
      refine qa N Z Z (aE [(0,pS 1 cl_b az b),(1,pN kn),(6,PV.ref 2 0 none),(7,pN i)] [(2,oB true 1 ar (os ++ [decide ((e1 >>> UInt8.ofNat (i % 8)) &&& 1 = 1)])),(1,oB true 1 ar [decide ((e1 >>> UInt8.ofNat (i % 8)) &&& 1 = 1)])] 3 ⟨Z,Z,Z,Z,trivial⟩ Z Z (bG (aG (ak (bk (qm N Z Z (qo N Z (cm (a := i) (b := 1) Z Z (by omega) (by omega) (by omega) ?_))))))))
      refine ae N Z Z (⟨(os ++ [decide ((e1 >>> UInt8.ofNat (i % 8)) &&& 1 = 1)]),(i + 1), ?_, ?_,⟨[(0,2)],by rw [hk]; decide,⟨⟨_,rfl,rfl,rfl⟩,⟨_,rfl,rfl,rfl⟩,⟨_,rfl,rfl,rfl⟩,⟨_,rfl,rfl,rfl⟩,trivial⟩,⟨⟨_,_,rfl,rfl,rfl,rfl⟩,trivial⟩,by rw [hk]; decide⟩⟩)
      ·(refine ⟨by omega, ?_,fun j hj hn => hz j (by omega) hn⟩; rw [show min (i + 1) kn = i + 1 by omega,qe,iK he1,ho,show min i kn = i by omega])
      · omega
     try simp only [sB] at c3
     refine sr (qm N Z Z (re (av Z (fun c4 => ?_) (fun c4 => ?_))))
     ·have c4_ := c4
      try simp only [sB] at c4
      have hbi : bitOf b i = true := by rw [iK he1]; simpa using c4_
      have eo : di b n = false := by rw [hkn,ji ⟨hbd,hlen⟩]; exact decide_eq_false fun h => by rw [h i (by omega) (by omega)] at hbi; cases hbi
      refine sr (qa N Z Z (ae N Z Z (dw (s := 4) (y := pS 1 false ar []) Z (ax 1 false) (aq (s := 4) Z (congrArg (fun z => pS 1 false ar z) (show ([] : List Bool) = (dh b n) by (simp [dh,eo]; done))) (aq (s := 5) Z (congrArg pB (show false = (di b n) by exact eo.symm)) (w_ret (am (af (af ?_)))))))))
      exact am (af fp)
     have c4_ := c4
     try simp only [sB] at c4
     have hbi : bitOf b i = false := by rw [iK he1]; simpa using c4_
     refine aw (aG (ak (bk (qm N Z Z (qo N Z (cm (a := i) (b := 1) Z Z (by omega) (by omega) (by omega) ?_))))))
     refine ae N Z Z (⟨(os),(i + 1), ?_, ?_,⟨[(0,0)],by rw [hk]; decide,⟨⟨_,rfl,rfl,rfl⟩,⟨_,rfl,rfl,rfl⟩,⟨_,rfl,rfl,rfl⟩,⟨_,rfl,rfl,rfl⟩,trivial⟩,⟨⟨_,_,rfl,rfl,rfl,rfl⟩,trivial⟩,by rw [hk]; decide⟩⟩)
     ·(refine ⟨by omega,by rw [ho,show min (i + 1) kn = min i kn by omega],fun j hj hn => ?_⟩; by_cases hji : j < i; exact hz j hji hn; obtain rfl : j = i := (by omega); exact hbi)
     · omega
    try simp only [sB] at c2
    have hoe : os = (List.range kn).map (bitOf b) := by rw [ho,show min i kn = kn by omega]
    have eo : di b n = true := by rw [hkn,ji ⟨hbd,hlen⟩]; exact decide_eq_true fun j hj hn => hz j (by omega) hn
    refine cG (aL (aL (bq (ak (sr ?_)))))
    exact xp N 3 [.o 3] [] [(4,PV.ref 0 0 none),(5,pB true)] (re (gE (s := 4) (f := ar) Z Z gG (aq (s := 4) Z (congrArg (fun z => pS 1 false ar z) (show os = (dh b n) by (rw [hkn,nD (by rw [← hkn]; exact eo),hoe]))) (aq (s := 5) Z (congrArg pB (show true = (di b n) by exact eo.symm)) (w_ret fp)))))
  have g2' := g2
  try simp only [sB] at g2'
  have eo : di b n = false := iJ (by omega)
  refine bh (s := 18) Z (congrArg pB g2) (xp N 6 [.o 6] [] [(25,pB true)] (re (av Z (fun _ => ?_) (fun e => absurd e (by decide)))))
  exact sr (qa N Z Z (ae N Z Z (dw (s := 4) (y := pS 1 false ar []) Z (ax 1 false) (aq (s := 4) Z (congrArg (fun z => pS 1 false ar z) (show ([] : List Bool) = (dh b n) by (simp [dh,eo]; done))) (aq (s := 5) Z (congrArg pB (show false = (di b n) by exact eo.symm)) (w_ret (af fp)))))))
 have g1' := g1
 try simp only [sB] at g1'
 have eo : di b n = false := iJ (by omega)
 refine bh (s := 11) Z (congrArg pB g1) (xp N 13 [.o 13] [] [(25,pB true)] (re (av Z (fun _ => ?_) (fun e => absurd e (by decide)))))
 exact sr (qa N Z Z (ae N Z Z (dw (s := 4) (y := pS 1 false ar []) Z (ax 1 false) (aq (s := 4) Z (congrArg (fun z => pS 1 false ar z) (show ([] : List Bool) = (dh b n) by (simp [dh,eo]; done))) (aq (s := 5) Z (congrArg pB (show false = (di b n) by exact eo.symm)) (w_ret (af fp)))))))
section
variable {b : List UInt8}{q : TRequest}{e : UInt8} (h0 : b.getD 0 0 = e)
include h0
theorem rh (h : 128 ≤ ((e.toNat : Nat) : Int)) : dd b q = ⟨((e.toNat % 2 ^ 7 : Nat) : Int),jA b,0,0,0,[],[],0,0,[]⟩ := by unfold dd; simp only [h0]; rw [if_pos h]
variable (h : ¬ 128 ≤ ((e.toNat : Nat) : Int))
include h
theorem yJ (k : ((e.toNat : Nat) : Int) = 1 ∨ ((e.toNat : Nat) : Int) = 2) (hl : 1 < b.length) : dd b q = ⟨((e.toNat : Nat) : Int),0,0,0,0,dh (b.drop 2) q.count,[],0,0,[]⟩ := by unfold dd; simp only [h0]; rw [if_neg h,if_pos k,if_pos hl]
theorem yI (k : ((e.toNat : Nat) : Int) = 1 ∨ ((e.toNat : Nat) : Int) = 2) (hl : ¬ 1 < b.length) : dd b q = ⟨((e.toNat : Nat) : Int),0,0,0,0,[],[],0,0,[]⟩ := by unfold dd; simp only [h0]; rw [if_neg h,if_pos k,if_neg hl]
theorem yH (k : ((e.toNat : Nat) : Int) = 3 ∨ ((e.toNat : Nat) : Int) = 4 ∨ ((e.toNat : Nat) : Int) = 23) : dd b q = ⟨((e.toNat : Nat) : Int),0,0,0,0,[],cJ b 2,0,0,[]⟩ := by unfold dd; simp only [h0]; rw [if_neg h,if_neg (by omega),if_pos k]
theorem wS (k : ((e.toNat : Nat) : Int) = 15 ∨ ((e.toNat : Nat) : Int) = 16) : dd b q = ⟨((e.toNat : Nat) : Int),0,bA b 1,bA b 3,0,[],[],0,0,[]⟩ := by unfold dd; simp only [h0]; rw [if_neg h,if_neg (by omega),if_neg (by omega),if_pos k]
theorem ri (k : ((e.toNat : Nat) : Int) = 17) (hl : 1 < b.length) : dd b q = ⟨((e.toNat : Nat) : Int),0,0,0,0,[],[],0,0,b.drop 2⟩ := by unfold dd; simp only [h0]; rw [if_neg h,if_neg (by omega),if_neg (by omega),if_neg (by omega),if_pos k,if_pos hl]
theorem wR (k : ((e.toNat : Nat) : Int) = 17) (hl : ¬ 1 < b.length) : dd b q = ⟨((e.toNat : Nat) : Int),0,0,0,0,[],[],0,0,[]⟩ := by unfold dd; simp only [h0]; rw [if_neg h,if_neg (by omega),if_neg (by omega),if_neg (by omega),if_pos k,if_neg hl]
theorem yG (k : ¬ (((e.toNat : Nat) : Int) = 1 ∨ ((e.toNat : Nat) : Int) = 2 ∨ ((e.toNat : Nat) : Int) = 3 ∨ ((e.toNat : Nat) : Int) = 4 ∨ ((e.toNat : Nat) : Int) = 23 ∨ ((e.toNat : Nat) : Int) = 15 ∨ ((e.toNat : Nat) : Int) = 16 ∨ ((e.toNat : Nat) : Int) = 17)) {G : TRequest} (hG : G = cL b) :
    dd b q = ⟨((e.toNat : Nat) : Int),0,(if ((e.toNat : Nat) : Int) = 8 then 0 else bA b 1),0,G.sub,G.bits,G.vals,G.and_,G.or_,[]⟩ := by
  subst hG; unfold dd; simp only [h0]; rw [if_neg h,if_neg (by omega),if_neg (by omega),if_neg (by omega),if_neg (by omega)]
end
theorem uS {b : List UInt8}{q : TRequest} (hb : b.length ≤ 140737488351232) (hq : b.length ≤ 17592186043904 ∨ q.count ≤ 140737488351232) : (dd b q).bits.length ≤ 140737488351232 ∧ (dd b q).vals.length ≤ 140737488351232 ∧ (dd b q).data.length ≤ 140737488351232 := by
  have h1 := vV (b.drop 2) q.count
  have h2 := sn (b.drop 2) q.count
  have h4 : (b.drop 2).length ≤ b.length := by rw [List.length_drop]; omega
  have h3 := (mP b 2).1
  have h6 := ur b
  have h5 : (dh (b.drop 2) q.count).length ≤ 140737488351232 := by rcases hq with h|h <;> omega
  unfold dd
  simp only
  repeat' split
  all_goals first|exact ⟨h5,Nat.zero_le _,Nat.zero_le _⟩|exact ⟨Nat.zero_le _,by simp only; omega,Nat.zero_le _⟩|exact ⟨Nat.zero_le _,Nat.zero_le _,by simp only; omega⟩|exact ⟨Nat.zero_le _,Nat.zero_le _,Nat.zero_le _⟩|exact ⟨by simp only; omega,by simp only; omega,Nat.zero_le _⟩|exact ⟨by simp,by simp,by simp⟩
set_option maxRecDepth 100000 in
theorem Bo : ∀ n : Fin 256,n.val ||| 128 = if n.val < 128 then n.val + 128 else n.val := by decide
theorem vp {f : Int} (h : 0 ≤ f ∧ f ≤ 255) : dx .or .i64 f 128 = if f < 128 then f + 128 else f := by
  obtain ⟨n,rfl⟩ : ∃ n : Nat,f = (n : Int) := ⟨f.toNat,by omega⟩
  have h2 := Bo ⟨n,by omega⟩
  have hr : n ||| 128 < 2 ^ 63 := Nat.or_lt_two_pow (by omega) (by decide)
  have e := Pv.bits_nat .or (· ||| ·) (fun a b => by simp) (a := n) (b := 128) (by omega) (by decide) hr (.inr (.inl rfl))
  have e2 : dx .or .i64 (n : Int) 128 = ((n ||| 128 : Nat) : Int) := e
  rw [e2,h2]
  by_cases hc : n < 128
  · rw [if_pos hc,if_pos (by omega)]; rfl
  · rw [if_neg hc,if_neg (by omega)]
def nF (e : UInt8) (f : Int) : Bool := (((!decide (((UInt8.toNat e : Nat) : Int) = f)) && (!decide (((UInt8.toNat e : Nat) : Int) = dx .or .i64 f 128))) || decide (f < 0)) || decide (255 < f)
theorem tI {e : UInt8}{f : Int} (h : nF e f = true) : ¬ (0 ≤ f ∧ (((e.toNat : Nat) : Int) = f ∨ f < 128 ∧ ((e.toNat : Nat) : Int) = f + 128)) := by
  have he := e.toNat_lt
  unfold nF at h
  simp only [Bool.or_eq_true,Bool.and_eq_true,Bool.not_eq_true',decide_eq_false_iff_not,decide_eq_true_eq] at h
  by_cases hf : 0 ≤ f ∧ f ≤ 255
  · rw [vp hf] at h
    split at h <;> omega
  · omega
theorem xM {e : UInt8}{f : Int} (h : nF e f = false) : 0 ≤ f ∧ (((e.toNat : Nat) : Int) = f ∨ f < 128 ∧ ((e.toNat : Nat) : Int) = f + 128) := by
  have he := e.toNat_lt
  unfold nF at h
  simp only [Bool.or_eq_false_iff,Bool.and_eq_false_iff,Bool.not_eq_false',decide_eq_false_iff_not,decide_eq_true_eq] at h
  obtain ⟨⟨h1,h2⟩,h3⟩ := h
  rw [vp (by omega)] at h1
  split at h1 <;> omega
theorem cO {G : TReply}{b : List UInt8}{e : UInt8} (h0 : b.getD 0 0 = e) (hg : bI G = 0) (h : cQ G = b) : ((e.toNat : Nat) : Int) = if G.code ≠ 0 then G.fn + 128 else G.fn := by
  rw [← h0,← h]; exact r6 hg
theorem eC {G : TReply} (hg : bI G = 0) (h : G.code = 0) : 1 ≤ G.fn := by
  rcases goodR_zero hg with ⟨h0,_⟩|⟨_,hf,_⟩
  · exact absurd h h0
  · have := hasF_of hf; omega
theorem lP (b : List UInt8) (cl_b : Bool) (q : TRequest) (R : TReply × Int) (hR : R = dS dd b q) (hb : b.length ≤ 140737488351232) (hq : q.count ≤ 9223372036854775807 ∧ (b.length ≤ 17592186043904 ∨ q.count ≤ 140737488351232)) :
    T Tryz.prog 13 [pS 1 cl_b az b,PV.f (bx q)] 0 [] (Ret (PV.tup [PV.f (aK R.1),pI R.2]) 0 []) := by
 refine bn aF (n := 168) (rs := [.cell 4 40,.tmp 5]) Tryz.func13 Z Z Z Z (nb Z) ?_
 intro c N hk
 refine sr (qo N Z (cu Z Z ?_))
 refine qo N Z (cg aM ?_)
 let Ya9 : Nat × Pv.Obj := (1,.obj [pI 0,pI 0,pI 0,pI 0,pI 0,aH,aH,au 0,au 0,aH])
 let Yb1 : Nat × PV := (0,pS 1 cl_b az b)
 let Yb6 : Nat × Pv.Obj := (0,.obj (cd q))
 let Yc : Nat × PV := (4,PV.ptr 1 0)
 let Yd : Nat × PV := (3,PV.ptr 0 0)
 refine qa N Z Z (aE [Yb1,Yd,Yc] [Ya9,Yb6] 2 ⟨Z,Z,Z,trivial⟩ Z Z (re (an (sr (qm N Z Z (qo N Z (ca (l := b) tab_38 Z (cf (f := az) Z) ?_)))))))
 refine qo N Z (bF Z Z ?_)
 refine re (av Z (fun c1 => ?_) (fun c1 => ?_))
 ·have c1_ := c1
  try simp only [sB] at c1
  refine sr (qo N Z (bX aM Z Z (dp ?_)))
  refine qo N Z (aC aM Z Z Z Z Z (nb Z) ?_)
  refine qa N Z Z (aE [Yc,(5,pI 13)] [Ya9,Yb6] 2 ⟨Z,Z,trivial⟩ Z Z (re ?_))
  have hz1 : 0 = R.1.fn ∧ 0 = R.1.code ∧ 0 = R.1.at_ ∧ 0 = R.1.count ∧ 0 = R.1.sub ∧ ([] : List Bool) = R.1.bits ∧ ([] : List UInt16) = R.1.vals ∧ 0 = R.1.and_ ∧ 0 = R.1.or_ ∧ ([] : List UInt8) = R.1.data := by and_intros <;> ((rw [hR,kz (by omega)] <;> rfl))
  exact bH (n := 1) (ds := bm R.1) Z ⟨le_of_eq (congrArg pI hz1.1),le_of_eq (congrArg pI hz1.2.1),le_of_eq (congrArg pI hz1.2.2.1),le_of_eq (congrArg pI hz1.2.2.2.1),le_of_eq (congrArg pI hz1.2.2.2.2.1),be (ax 1 false) (le_of_eq (congrArg (fun z => pS 1 false ar z) hz1.2.2.2.2.2.1)),be (ax 1 false) (le_of_eq (congrArg (fun z => pS 1 false aj z) hz1.2.2.2.2.2.2.1)),le_of_eq (congrArg au hz1.2.2.2.2.2.2.2.1),le_of_eq (congrArg au hz1.2.2.2.2.2.2.2.2.1),be (ax 1 false) (le_of_eq (congrArg (fun z => pS 1 false az z) hz1.2.2.2.2.2.2.2.2.2)),trivial⟩ (aq (s := 5) Z (congrArg pI (show 13 = R.2 by (rw [hR,kz (by omega)] <;> rfl))) (w_ret (af fp)))
 have c1_ := c1
 try simp only [sB] at c1
 refine aw (ak (sr (qm N Z Z ?_)))
 obtain ⟨e1,he1⟩ := bl b (i := 0) (by omega)
 refine qo N Z (cA (q := 0) (b := e1) (f := az) tab_38 Z tab_5 Z Z (by omega) Z he1 ?_)
 let Ya3 : Nat × PV := (6,pN (UInt8.toNat e1))
 refine xp N 3 [.o 3] [bu ((UInt8.toNat e1 : Nat) : Int)] [Ya3] ?_ (hc := ⟨by unfold bu; have := kb e1; omega,trivial⟩)
 refine re (an (an ?_))
 have hb0 : b.getD 0 0 = e1 := by rw [List.getD_eq_getElem?_getD,he1]; rfl
 have hel := e1.toNat_lt
 refine bk (xp N 5 [.o 5] [] [(22,pB (!decide (((UInt8.toNat e1 : Nat) : Int) = q.fn)))] (cy 6 [Yb1,Yd,Yc,Ya3,(28,pB ((!decide (((UInt8.toNat e1 : Nat) : Int) = q.fn)) && (!decide (((UInt8.toNat e1 : Nat) : Int) = dx .or .i64 q.fn 128))))] ?_ ?_))
 ·refine bS aF N Z Z Z (fun g1 => ?_) (fun g1 => ?_)
  ·have g1' := g1
   try simp only [sB] at g1'
   refine qm N Z Z (ry N Z Z Z g1 (qo N Z (aX bc Z Z aD (by decide) Z ?_)))
   refine ry N Z Z Z g1 (qo N Z (bp aD Z Z Z Z Z ?_))
   refine ry N Z Z Z g1 (qo N Z (oI Z Z ?_))
   refine ry N Z Z Z g1 (qo N Z (el Z Z ?_))
   refine qo N Z (bg Z g1 Z ?_)
   refine bh (s := 28) Z (dI g1) ?_
   exact bC ⟨⟨Z,Z,Z,Z,Z,trivial⟩,Z,Z⟩
  ·have g1' := g1
   try simp only [sB] at g1'
   refine rn N Z Z Z g1 (rn N Z Z Z g1 (rn N Z Z Z g1 (rn N Z Z Z g1 (qo N Z (bd Z g1 Z ?_)))))
   refine bh (s := 28) (y := pB ((!decide (((UInt8.toNat e1 : Nat) : Int) = q.fn)) && (!decide (((UInt8.toNat e1 : Nat) : Int) = dx .or .i64 q.fn 128)))) Z (dJ _ g1) ?_
   exact bC ⟨⟨Z,Z,Z,Z,Z,trivial⟩,Z,Z⟩
 ·refine xp N 10 [.o 1,.b 3 [.o 3],.o 1,.b 3 [.o 3]] [] [(38,pB ((((!decide (((UInt8.toNat e1 : Nat) : Int) = q.fn)) && (!decide (((UInt8.toNat e1 : Nat) : Int) = dx .or .i64 q.fn 128))) || (decide (q.fn < 0))) || (decide (255 < q.fn))))] (re (av Z (fun c2 => ?_) (fun c2 => ?_)))
  ·have c2_ := c2
   try simp only [sB] at c2
   refine sr (qo N Z (bX aM Z Z (dp ?_)))
   refine qo N Z (aC aM Z Z Z Z Z (nb Z) ?_)
   refine qa N Z Z (aE [Yc,(5,pI 12)] [Ya9,Yb6] 2 ⟨Z,Z,trivial⟩ Z Z (re ?_))
   have hz2 : 0 = R.1.fn ∧ 0 = R.1.code ∧ 0 = R.1.at_ ∧ 0 = R.1.count ∧ 0 = R.1.sub ∧ ([] : List Bool) = R.1.bits ∧ ([] : List UInt16) = R.1.vals ∧ 0 = R.1.and_ ∧ 0 = R.1.or_ ∧ ([] : List UInt8) = R.1.data := by and_intros <;> ((rw [hR,s5 (by omega) hb0 (tI (by unfold nF; exact c2_))] <;> rfl))
   exact bH (n := 1) (ds := bm R.1) Z ⟨le_of_eq (congrArg pI hz2.1),le_of_eq (congrArg pI hz2.2.1),le_of_eq (congrArg pI hz2.2.2.1),le_of_eq (congrArg pI hz2.2.2.2.1),le_of_eq (congrArg pI hz2.2.2.2.2.1),be (ax 1 false) (le_of_eq (congrArg (fun z => pS 1 false ar z) hz2.2.2.2.2.2.1)),be (ax 1 false) (le_of_eq (congrArg (fun z => pS 1 false aj z) hz2.2.2.2.2.2.2.1)),le_of_eq (congrArg au hz2.2.2.2.2.2.2.2.1),le_of_eq (congrArg au hz2.2.2.2.2.2.2.2.2.1),be (ax 1 false) (le_of_eq (congrArg (fun z => pS 1 false az z) hz2.2.2.2.2.2.2.2.2.2)),trivial⟩ (aq (s := 5) Z (congrArg pI (show 12 = R.2 by (rw [hR,s5 (by omega) hb0 (tI (by unfold nF; exact c2_))] <;> rfl))) (w_ret (af fp)))
  have c2_ := c2
  try simp only [sB] at c2
  refine aw (ak (an ?_))
  obtain ⟨G,hG⟩ : ∃ z,z = dd b q := ⟨_,rfl⟩
  have hask := xM (e := e1) (f := q.fn) (by unfold nF; exact c2_)
  refine bk (qm N Z Z (qo N Z (bX aM Z Z (br Z aD Z Z Z (nb Z) (dp ?_)))))
  refine qo N Z (cg aM ?_)
  refine qo N Z (aC aM Z Z Z Z Z (nb Z) ?_)
  let Y5 : Nat × Pv.Obj := (2,.obj [pI 0,pI 0,pI 0,pI 0,pI 0,aH,aH,au 0,au 0,aH])
  let Ya1 : Nat × Pv.Obj := (1,.obj (cd q))
  let Ya4 : Nat × Pv.Obj := (0,.obj (bm G))
  let Ya8 : Nat × PV := (7,PV.ptr 0 0)
  let Yb : Nat × PV := (4,PV.ptr 2 0)
  let Yb2 : Nat × PV := (3,PV.ptr 1 0)
  refine aE [Yb1,Yd,Yc,Ya3,(7,PV.ptr 2 0)] [(2,.obj [pN (UInt8.toNat e1),pI 0,pI 0,pI 0,pI 0,aH,aH,au 0,au 0,aH]),Ya9,Yb6] 3 ⟨Z,Z,Z,Z,Z,trivial⟩ Z Z (re (uq (True) ([Yb1,Yb2,Yb,Ya3,Ya8]) 3 ([Ya4,Ya1,Y5]) ?_ ?_))
  ·refine sr (qm N Z Z (qo N Z (jy Z Z ?_)))
   refine re (av Z (fun c3 => ?_) (fun c3 => ?_))
   ·have c3_ := c3
    try simp only [sB] at c3
    refine sr (qm N Z Z (qo N Z (yT (a := UInt8.toNat e1) 7 (by decide) Z Z (by omega) (by decide) ?_)))
    refine qo N Z (aX aM Z Z aD (by decide) Z ?_)
    refine qo N Z (aC aD Z Z Z Z Z (nb Z) ?_)
    refine aE [Yb1,Yd,Yc,Ya3,(7,PV.ptr 2 0)] [(2,.obj [pN ((UInt8.toNat e1) % 2 ^ 7),pI 0,pI 0,pI 0,pI 0,aH,aH,au 0,au 0,aH]),Ya9,Yb6] 3 ⟨Z,Z,Z,Z,Z,trivial⟩ Z Z (re (sr (qm N Z Z (qo N Z (ca (l := b) tab_38 Z (cf (f := az) Z) ?_)))))
    refine qo N Z (gM Z Z ?_)
    refine re (av Z (fun c4 => ?_) (fun c4 => ?_))
    ·have c4_ := c4
     try simp only [sB] at c4
     refine bk (qm N Z Z ?_)
     obtain ⟨e2,he2⟩ := bl b (i := 1) (by omega)
     refine qo N Z (cA (q := 1) (b := e2) (f := az) tab_38 Z tab_5 Z Z (by omega) Z he2 ?_)
     refine qo N Z (ud tab_5 Z Z Z Z ?_)
     refine qo N Z (B5 (a := UInt8.toNat e2) tab_5 aD Z Z Z (by omega) (by have := kb e2; omega) ?_)
     refine qo N Z (aX aM Z Z aD (by decide) Z ?_)
     refine qo N Z (aC aD Z Z Z Z Z (nb Z) ?_)
     have hz3 : (((UInt8.toNat e1) % 2 ^ 7 : Nat) : Int) = G.fn ∧ ((UInt8.toNat e2 : Nat) : Int) = G.code ∧ 0 = G.at_ ∧ 0 = G.count ∧ 0 = G.sub ∧ ([] : List Bool) = G.bits ∧ ([] : List UInt16) = G.vals ∧ 0 = G.and_ ∧ 0 = G.or_ ∧ ([] : List UInt8) = G.data := by and_intros <;> (rw [hG,rh hb0 (by omega),zU (by omega) he2])
     refine eF (n := 2) (ds := bm G) Z ⟨le_of_eq (congrArg pI hz3.1),le_of_eq (congrArg pI hz3.2.1),le_of_eq (congrArg pI hz3.2.2.1),le_of_eq (congrArg pI hz3.2.2.2.1),le_of_eq (congrArg pI hz3.2.2.2.2.1),be (ax 1 false) (le_of_eq (congrArg (fun z => pS 1 false ar z) hz3.2.2.2.2.2.1)),be (ax 1 false) (le_of_eq (congrArg (fun z => pS 1 false aj z) hz3.2.2.2.2.2.2.1)),le_of_eq (congrArg au hz3.2.2.2.2.2.2.2.1),le_of_eq (congrArg au hz3.2.2.2.2.2.2.2.2.1),be (ax 1 false) (le_of_eq (congrArg (fun z => pS 1 false az z) hz3.2.2.2.2.2.2.2.2.2)),trivial⟩ (re (⟨?_,⟨[(0,2),(1,0),(2,1)],by rw [hk]; decide,⟨⟨_,rfl,rfl,rfl⟩,⟨_,rfl,rfl,rfl⟩,⟨_,rfl,rfl,rfl⟩,⟨_,rfl,rfl,rfl⟩,⟨_,rfl,rfl,rfl⟩,trivial⟩,⟨⟨_,_,rfl,rfl,rfl,rfl⟩,⟨_,_,rfl,rfl,rfl,rfl⟩,⟨_,_,rfl,rfl,rfl,rfl⟩,trivial⟩,by rw [hk]; decide⟩⟩))
     trivial
    have c4_ := c4
    try simp only [sB] at c4
    have hz4 : (((UInt8.toNat e1) % 2 ^ 7 : Nat) : Int) = G.fn ∧ 0 = G.code ∧ 0 = G.at_ ∧ 0 = G.count ∧ 0 = G.sub ∧ ([] : List Bool) = G.bits ∧ ([] : List UInt16) = G.vals ∧ 0 = G.and_ ∧ 0 = G.or_ ∧ ([] : List UInt8) = G.data := by and_intros <;> (rw [hG,rh hb0 (by omega),zV (by omega)])
    refine bH (n := 2) (ds := bm G) Z ⟨le_of_eq (congrArg pI hz4.1),le_of_eq (congrArg pI hz4.2.1),le_of_eq (congrArg pI hz4.2.2.1),le_of_eq (congrArg pI hz4.2.2.2.1),le_of_eq (congrArg pI hz4.2.2.2.2.1),be (ax 1 false) (le_of_eq (congrArg (fun z => pS 1 false ar z) hz4.2.2.2.2.2.1)),be (ax 1 false) (le_of_eq (congrArg (fun z => pS 1 false aj z) hz4.2.2.2.2.2.2.1)),le_of_eq (congrArg au hz4.2.2.2.2.2.2.2.1),le_of_eq (congrArg au hz4.2.2.2.2.2.2.2.2.1),be (ax 1 false) (le_of_eq (congrArg (fun z => pS 1 false az z) hz4.2.2.2.2.2.2.2.2.2)),trivial⟩ (aw (ak (⟨?_,⟨[(0,2),(1,0),(2,1)],by rw [hk]; decide,⟨⟨_,rfl,rfl,rfl⟩,⟨_,rfl,rfl,rfl⟩,⟨_,rfl,rfl,rfl⟩,⟨_,rfl,rfl,rfl⟩,⟨_,rfl,rfl,rfl⟩,trivial⟩,⟨⟨_,_,rfl,rfl,rfl,rfl⟩,⟨_,_,rfl,rfl,rfl,rfl⟩,⟨_,_,rfl,rfl,rfl,rfl⟩,trivial⟩,by rw [hk]; decide⟩⟩)))
    trivial
   have c3_ := c3
   try simp only [sB] at c3
   refine sr (qm N Z Z (qo N Z (aO Z Z Z (ju ((UInt8.toNat e1 : Nat) : Int)) Z ?_)))
   refine ae N Z Z (qF (fun (va : Int) => va = (if inS (aW ((e1.toNat : Nat) : Int)) 97 = true then bA b 1 else 0)) (fun (va : Int) => [Yb1,Yb2,Yb,Ya3,Ya8]) 3 (fun (va : Int) => [(0,.obj [pN (UInt8.toNat e1),pI 0,pI va,pI 0,pI 0,aH,aH,au 0,au 0,aH]),Ya1,Y5]) ?_ ?_)
   ·refine sr (qm N Z Z (qo N Z (aO Z Z Z (cp (aW ((UInt8.toNat e1 : Nat) : Int)) 97 (by have := fL ((UInt8.toNat e1 : Nat) : Int); omega)) Z ?_)))
    refine re (av Z (fun c5 => ?_) (fun c5 => ?_))
    ·have c5_ := c5
     try simp only [sB] at c5
     refine bk (qm N Z Z (qo N Z (aO Z Z Z (dl b cl_b 1 (by omega) (by omega)) Z ?_)))
     refine qo N Z (aX aM Z Z aD (by decide) Z ?_)
     refine qo N Z (aC aD Z Z Z Z Z (nb Z) ?_)
     refine re (⟨(bA b 1), ?_,⟨[(0,2),(1,0),(2,1)],by rw [hk]; decide,⟨⟨_,rfl,rfl,rfl⟩,⟨_,rfl,rfl,rfl⟩,⟨_,rfl,rfl,rfl⟩,⟨_,rfl,rfl,rfl⟩,⟨_,rfl,rfl,rfl⟩,trivial⟩,⟨⟨_,_,rfl,rfl,rfl,rfl⟩,⟨_,_,rfl,rfl,rfl,rfl⟩,⟨_,_,rfl,rfl,rfl,rfl⟩,trivial⟩,by rw [hk]; decide⟩⟩)
     rw [if_pos c5_]
    have c5_ := c5
    try simp only [sB] at c5
    refine aw (ak (⟨(0), ?_,⟨[(0,2),(1,0),(2,1)],by rw [hk]; decide,⟨⟨_,rfl,rfl,rfl⟩,⟨_,rfl,rfl,rfl⟩,⟨_,rfl,rfl,rfl⟩,⟨_,rfl,rfl,rfl⟩,⟨_,rfl,rfl,rfl⟩,trivial⟩,⟨⟨_,_,rfl,rfl,rfl,rfl⟩,⟨_,_,rfl,rfl,rfl,rfl⟩,⟨_,_,rfl,rfl,rfl,rfl⟩,trivial⟩,by rw [hk]; decide⟩⟩))
    rw [if_neg (by simp [c5_])]
   intro va hva
   have ha97 := Bz ((e1.toNat : Nat) : Int)
   have hva0 : (((e1.toNat : Nat) : Int) = 1 ∨ ((e1.toNat : Nat) : Int) = 2 ∨ ((e1.toNat : Nat) : Int) = 3 ∨ ((e1.toNat : Nat) : Int) = 4 ∨ ((e1.toNat : Nat) : Int) = 23 ∨ ((e1.toNat : Nat) : Int) = 8 ∨ ((e1.toNat : Nat) : Int) = 17) → va = 0 := fun h => by rw [hva,ha97,if_neg (by simp; omega)]
   have hva1 : ¬ (((e1.toNat : Nat) : Int) = 1 ∨ ((e1.toNat : Nat) : Int) = 2 ∨ ((e1.toNat : Nat) : Int) = 3 ∨ ((e1.toNat : Nat) : Int) = 4 ∨ ((e1.toNat : Nat) : Int) = 23 ∨ ((e1.toNat : Nat) : Int) = 8 ∨ ((e1.toNat : Nat) : Int) = 17) → va = bA b 1 := fun h => by rw [hva,ha97,if_pos (by simp; omega)]
   have hva8 : ¬ (((e1.toNat : Nat) : Int) = 1 ∨ ((e1.toNat : Nat) : Int) = 2 ∨ ((e1.toNat : Nat) : Int) = 3 ∨ ((e1.toNat : Nat) : Int) = 4 ∨ ((e1.toNat : Nat) : Int) = 23 ∨ ((e1.toNat : Nat) : Int) = 17) → va = (if ((e1.toNat : Nat) : Int) = 8 then 0 else bA b 1) := fun h => by split; exact hva0 (by omega); exact hva1 (by omega)
   let Yb7 : Nat × Pv.Obj := (0,.obj [pN (UInt8.toNat e1),pI 0,pI va,pI 0,pI 0,aH,aH,au 0,au 0,aH])
   refine sr (qm N Z Z (re (aP (xo N 80 [[.o 2],[.o 2]] [] ((decide (((UInt8.toNat e1 : Nat) : Int) = 1)) || (decide (((UInt8.toNat e1 : Nat) : Int) = 2))) (av Z (fun c7 => ?_) (fun c7 => ?_))))))
   ·have c7_ := c7
    try simp only [sB,Bool.or_eq_true,Bool.or_eq_false_iff] at c7
    refine sr (qm N Z Z (qo N Z (ca (l := b) tab_38 Z (cf (f := az) Z) ?_)))
    refine qo N Z (gM Z Z ?_)
    refine re (av Z (fun c8 => ?_) (fun c8 => ?_))
    ·have c8_ := c8
     try simp only [sB] at c8
     refine cK N (xq 1 [.o 1] [] (xk [(87,pS 1 cl_b az b)] [] [] [] [Yb7,Ya1,Y5] (gl (a := 2) (f := az) (l := b) tab_38 Z tab_5 ⟨Z,by decide⟩ Z (cD Z (by omega)) (by omega) ⟨Z,Z,Z⟩) (xd 8 [.o 2,.c (PV.tup [pS 1 false ar (dh (b.drop 2) q.count),pB (di (b.drop 2) q.count)]),.o 5] [T Tryz.prog 38 [pS 1 cl_b az (b.drop 2),pI q.count] 0 [] (Ret (PV.tup [pS 1 false ar (dh (b.drop 2) q.count),pB (di (b.drop 2) q.count)]) 0 [])] 3 [(0,.obj [pN (UInt8.toNat e1),pI 0,pI va,pI 0,pI 0,pS 1 false ar (dh (b.drop 2) q.count),aH,au 0,au 0,aH]),Ya1,Y5] ?_ (hc := ⟨(kT (b.drop 2) cl_b q.count (by rw [List.length_drop]; omega) (by omega) (by rw [List.length_drop]; omega)),trivial⟩))))
     refine xe [Yb1,Yb2,Yb,Ya3,Ya8] ?_
     have hz5 : ((UInt8.toNat e1 : Nat) : Int) = G.fn ∧ 0 = G.code ∧ va = G.at_ ∧ 0 = G.count ∧ 0 = G.sub ∧ (dh (b.drop 2) q.count) = G.bits ∧ ([] : List UInt16) = G.vals ∧ 0 = G.and_ ∧ 0 = G.or_ ∧ ([] : List UInt8) = G.data := by and_intros <;> ((rw [hG,yJ hb0 (by omega) (by omega) (by omega)] <;> (first|rfl|exact hva0 (by omega)|exact hva1 (by omega)|exact hva8 (by omega))))
     refine eF (n := 0) (ds := bm G) Z ⟨le_of_eq (congrArg pI hz5.1),le_of_eq (congrArg pI hz5.2.1),le_of_eq (congrArg pI hz5.2.2.1),le_of_eq (congrArg pI hz5.2.2.2.1),le_of_eq (congrArg pI hz5.2.2.2.2.1),le_of_eq (congrArg (fun z => pS 1 false ar z) hz5.2.2.2.2.2.1),be (ax 1 false) (le_of_eq (congrArg (fun z => pS 1 false aj z) hz5.2.2.2.2.2.2.1)),le_of_eq (congrArg au hz5.2.2.2.2.2.2.2.1),le_of_eq (congrArg au hz5.2.2.2.2.2.2.2.2.1),be (ax 1 false) (le_of_eq (congrArg (fun z => pS 1 false az z) hz5.2.2.2.2.2.2.2.2.2)),trivial⟩ (bG (aG (ak (⟨?_,⟨[(0,0),(1,1),(2,2)],by rw [hk]; decide,⟨⟨_,rfl,rfl,rfl⟩,⟨_,rfl,rfl,rfl⟩,⟨_,rfl,rfl,rfl⟩,⟨_,rfl,rfl,rfl⟩,⟨_,rfl,rfl,rfl⟩,trivial⟩,⟨⟨_,_,rfl,rfl,rfl,rfl⟩,⟨_,_,rfl,rfl,rfl,rfl⟩,⟨_,_,rfl,rfl,rfl,rfl⟩,trivial⟩,by rw [hk]; decide⟩⟩))))
     trivial
    have c8_ := c8
    try simp only [sB] at c8
    have hz6 : ((UInt8.toNat e1 : Nat) : Int) = G.fn ∧ 0 = G.code ∧ va = G.at_ ∧ 0 = G.count ∧ 0 = G.sub ∧ ([] : List Bool) = G.bits ∧ ([] : List UInt16) = G.vals ∧ 0 = G.and_ ∧ 0 = G.or_ ∧ ([] : List UInt8) = G.data := by and_intros <;> ((rw [hG,yI hb0 (by omega) (by omega) (by omega)] <;> (first|rfl|exact hva0 (by omega)|exact hva1 (by omega)|exact hva8 (by omega))))
    refine bH (n := 0) (ds := bm G) Z ⟨le_of_eq (congrArg pI hz6.1),le_of_eq (congrArg pI hz6.2.1),le_of_eq (congrArg pI hz6.2.2.1),le_of_eq (congrArg pI hz6.2.2.2.1),le_of_eq (congrArg pI hz6.2.2.2.2.1),be (ax 1 false) (le_of_eq (congrArg (fun z => pS 1 false ar z) hz6.2.2.2.2.2.1)),be (ax 1 false) (le_of_eq (congrArg (fun z => pS 1 false aj z) hz6.2.2.2.2.2.2.1)),le_of_eq (congrArg au hz6.2.2.2.2.2.2.2.1),le_of_eq (congrArg au hz6.2.2.2.2.2.2.2.2.1),be (ax 1 false) (le_of_eq (congrArg (fun z => pS 1 false az z) hz6.2.2.2.2.2.2.2.2.2)),trivial⟩ (aw (aG (ak (⟨?_,⟨[(0,0),(1,1),(2,2)],by rw [hk]; decide,⟨⟨_,rfl,rfl,rfl⟩,⟨_,rfl,rfl,rfl⟩,⟨_,rfl,rfl,rfl⟩,⟨_,rfl,rfl,rfl⟩,⟨_,rfl,rfl,rfl⟩,trivial⟩,⟨⟨_,_,rfl,rfl,rfl,rfl⟩,⟨_,_,rfl,rfl,rfl,rfl⟩,⟨_,_,rfl,rfl,rfl,rfl⟩,trivial⟩,by rw [hk]; decide⟩⟩))))
    trivial
   have c7_ := c7
   try simp only [sB,Bool.or_eq_true,Bool.or_eq_false_iff] at c7
   refine xo N 95 [[.o 2],[.o 2],[.o 2]] [] ((decide (((UInt8.toNat e1 : Nat) : Int) = 3)) || ((decide (((UInt8.toNat e1 : Nat) : Int) = 4)) || (decide (((UInt8.toNat e1 : Nat) : Int) = 23)))) (av Z (fun c11 => ?_) (fun c11 => ?_))
   ·have c11_ := c11
    try simp only [sB,Bool.or_eq_true,Bool.or_eq_false_iff] at c11
    refine bk (qm N Z Z (qo N Z (aO Z Z Z (er b cl_b 2 (by omega) (by omega)) Z ?_)))
    refine qo N Z (aX aM Z Z bf (by decide) Z ?_)
    refine qo N Z (aC bf Z Z Z Z Z (nb Z) ?_)
    have hz7 : ((UInt8.toNat e1 : Nat) : Int) = G.fn ∧ 0 = G.code ∧ va = G.at_ ∧ 0 = G.count ∧ 0 = G.sub ∧ ([] : List Bool) = G.bits ∧ (cJ b 2) = G.vals ∧ 0 = G.and_ ∧ 0 = G.or_ ∧ ([] : List UInt8) = G.data := by and_intros <;> ((rw [hG,yH hb0 (by omega) (by omega)] <;> (first|rfl|exact hva0 (by omega)|exact hva1 (by omega)|exact hva8 (by omega))))
    refine eF (n := 0) (ds := bm G) Z ⟨le_of_eq (congrArg pI hz7.1),le_of_eq (congrArg pI hz7.2.1),le_of_eq (congrArg pI hz7.2.2.1),le_of_eq (congrArg pI hz7.2.2.2.1),le_of_eq (congrArg pI hz7.2.2.2.2.1),be (ax 1 false) (le_of_eq (congrArg (fun z => pS 1 false ar z) hz7.2.2.2.2.2.1)),le_of_eq (congrArg (fun z => pS 1 false aj z) hz7.2.2.2.2.2.2.1),le_of_eq (congrArg au hz7.2.2.2.2.2.2.2.1),le_of_eq (congrArg au hz7.2.2.2.2.2.2.2.2.1),be (ax 1 false) (le_of_eq (congrArg (fun z => pS 1 false az z) hz7.2.2.2.2.2.2.2.2.2)),trivial⟩ (bG (aG (ak (⟨?_,⟨[(0,0),(1,1),(2,2)],by rw [hk]; decide,⟨⟨_,rfl,rfl,rfl⟩,⟨_,rfl,rfl,rfl⟩,⟨_,rfl,rfl,rfl⟩,⟨_,rfl,rfl,rfl⟩,⟨_,rfl,rfl,rfl⟩,trivial⟩,⟨⟨_,_,rfl,rfl,rfl,rfl⟩,⟨_,_,rfl,rfl,rfl,rfl⟩,⟨_,_,rfl,rfl,rfl,rfl⟩,trivial⟩,by rw [hk]; decide⟩⟩))))
    trivial
   have c11_ := c11
   try simp only [sB,Bool.or_eq_true,Bool.or_eq_false_iff] at c11
   refine xo N 102 [[.o 2],[.o 2]] [] ((decide (((UInt8.toNat e1 : Nat) : Int) = 15)) || (decide (((UInt8.toNat e1 : Nat) : Int) = 16))) (av Z (fun c13 => ?_) (fun c13 => ?_))
   ·have c13_ := c13
    try simp only [sB,Bool.or_eq_true,Bool.or_eq_false_iff] at c13
    refine bk (qm N Z Z (qo N Z (aO Z Z Z (dl b cl_b 3 (by omega) (by omega)) Z ?_)))
    refine qo N Z (aX aM Z Z aD (by decide) Z ?_)
    refine qo N Z (aC aD Z Z Z Z Z (nb Z) ?_)
    have hz8 : ((UInt8.toNat e1 : Nat) : Int) = G.fn ∧ 0 = G.code ∧ va = G.at_ ∧ (bA b 3) = G.count ∧ 0 = G.sub ∧ ([] : List Bool) = G.bits ∧ ([] : List UInt16) = G.vals ∧ 0 = G.and_ ∧ 0 = G.or_ ∧ ([] : List UInt8) = G.data := by and_intros <;> ((rw [hG,wS hb0 (by omega) (by omega)] <;> (first|rfl|exact hva0 (by omega)|exact hva1 (by omega)|exact hva8 (by omega))))
    refine eF (n := 0) (ds := bm G) Z ⟨le_of_eq (congrArg pI hz8.1),le_of_eq (congrArg pI hz8.2.1),le_of_eq (congrArg pI hz8.2.2.1),le_of_eq (congrArg pI hz8.2.2.2.1),le_of_eq (congrArg pI hz8.2.2.2.2.1),be (ax 1 false) (le_of_eq (congrArg (fun z => pS 1 false ar z) hz8.2.2.2.2.2.1)),be (ax 1 false) (le_of_eq (congrArg (fun z => pS 1 false aj z) hz8.2.2.2.2.2.2.1)),le_of_eq (congrArg au hz8.2.2.2.2.2.2.2.1),le_of_eq (congrArg au hz8.2.2.2.2.2.2.2.2.1),be (ax 1 false) (le_of_eq (congrArg (fun z => pS 1 false az z) hz8.2.2.2.2.2.2.2.2.2)),trivial⟩ (bG (aG (ak (⟨?_,⟨[(0,0),(1,1),(2,2)],by rw [hk]; decide,⟨⟨_,rfl,rfl,rfl⟩,⟨_,rfl,rfl,rfl⟩,⟨_,rfl,rfl,rfl⟩,⟨_,rfl,rfl,rfl⟩,⟨_,rfl,rfl,rfl⟩,trivial⟩,⟨⟨_,_,rfl,rfl,rfl,rfl⟩,⟨_,_,rfl,rfl,rfl,rfl⟩,⟨_,_,rfl,rfl,rfl,rfl⟩,trivial⟩,by rw [hk]; decide⟩⟩))))
    trivial
   have c13_ := c13
   try simp only [sB,Bool.or_eq_true,Bool.or_eq_false_iff] at c13
   refine sr (qo N Z (bF Z Z ?_))
   refine ae N Z Z (av Z (fun c14 => ?_) (fun c14 => ?_))
   ·have c14_ := c14
    try simp only [sB] at c14
    refine sr (qm N Z Z (qo N Z (ca (l := b) tab_38 Z (cf (f := az) Z) ?_)))
    refine qo N Z (gM Z Z ?_)
    refine re (av Z (fun c15 => ?_) (fun c15 => ?_))
    ·have c15_ := c15
     try simp only [sB] at c15
     refine bk (qo N Z (bM (f := az) ([] : List UInt8) tab_38 Z tab_5 ⟨Z,by decide⟩ (by decide) Z Z Z Z ?_))
     refine qm N Z Z (qo N Z (gl (a := 2) (f := az) (l := b) tab_38 Z tab_5 ⟨Z,by decide⟩ Z (cD Z (by omega)) (by omega) ?_))
     refine qo N Z (bZ (f := az) (l := ([] : List UInt8)) (xs := b.drop 2) tab_38 Z tab_5 ⟨Z,by decide,by decide⟩ (da tab_38 Z (cf (f := az) Z)) Z Z (by (simp; omega)) ?_)
     refine qo N Z (aX aM Z Z tab_38 (by decide) Z ?_)
     refine qo N Z (aC tab_38 Z Z Z Z Z (nb Z) ?_)
     refine kD (n := 0) (j := 9) Z Z Z Z ?_
     have hz9 : (b.drop 2) = G.data := by ((rw [hG,ri hb0 (by omega) (by omega) (by omega)] <;> (first|rfl|exact hva0 (by omega)|exact hva1 (by omega)|exact hva8 (by omega))))
     refine eF (n := 0) (ds := [pN (UInt8.toNat e1),pI 0,pI va,pI 0,pI 0,aH,aH,au 0,au 0,pS 1 false az G.data]) Z ⟨le_refl _,le_refl _,le_refl _,le_refl _,le_refl _,le_refl _,le_refl _,le_refl _,le_refl _,le_of_eq (congrArg (fun z => pS 1 false az z) hz9),trivial⟩ ?_
     have hz10 : ((UInt8.toNat e1 : Nat) : Int) = G.fn ∧ 0 = G.code ∧ va = G.at_ ∧ 0 = G.count ∧ 0 = G.sub ∧ ([] : List Bool) = G.bits ∧ ([] : List UInt16) = G.vals ∧ 0 = G.and_ ∧ 0 = G.or_ := by and_intros <;> ((rw [hG,ri hb0 (by omega) (by omega) (by omega)] <;> (first|rfl|exact hva0 (by omega)|exact hva1 (by omega)|exact hva8 (by omega))))
     refine eF (n := 0) (ds := bm G) Z ⟨le_of_eq (congrArg pI hz10.1),le_of_eq (congrArg pI hz10.2.1),le_of_eq (congrArg pI hz10.2.2.1),le_of_eq (congrArg pI hz10.2.2.2.1),le_of_eq (congrArg pI hz10.2.2.2.2.1),be (ax 1 false) (le_of_eq (congrArg (fun z => pS 1 false ar z) hz10.2.2.2.2.2.1)),be (ax 1 false) (le_of_eq (congrArg (fun z => pS 1 false aj z) hz10.2.2.2.2.2.2.1)),le_of_eq (congrArg au hz10.2.2.2.2.2.2.2.1),le_of_eq (congrArg au hz10.2.2.2.2.2.2.2.2),le_refl _,trivial⟩ (bG (aG (ak (⟨?_,⟨[(0,0),(1,1),(2,2)],by rw [hk]; decide,⟨⟨_,rfl,rfl,rfl⟩,⟨_,rfl,rfl,rfl⟩,⟨_,rfl,rfl,rfl⟩,⟨_,rfl,rfl,rfl⟩,⟨_,rfl,rfl,rfl⟩,trivial⟩,⟨⟨_,_,rfl,rfl,rfl,rfl⟩,⟨_,_,rfl,rfl,rfl,rfl⟩,⟨_,_,rfl,rfl,rfl,rfl⟩,trivial⟩,by rw [hk]; decide⟩⟩))))
     trivial
    have c15_ := c15
    try simp only [sB] at c15
    have hz11 : ((UInt8.toNat e1 : Nat) : Int) = G.fn ∧ 0 = G.code ∧ va = G.at_ ∧ 0 = G.count ∧ 0 = G.sub ∧ ([] : List Bool) = G.bits ∧ ([] : List UInt16) = G.vals ∧ 0 = G.and_ ∧ 0 = G.or_ ∧ ([] : List UInt8) = G.data := by and_intros <;> ((rw [hG,wR hb0 (by omega) (by omega) (by omega)] <;> (first|rfl|exact hva0 (by omega)|exact hva1 (by omega)|exact hva8 (by omega))))
    refine bH (n := 0) (ds := bm G) Z ⟨le_of_eq (congrArg pI hz11.1),le_of_eq (congrArg pI hz11.2.1),le_of_eq (congrArg pI hz11.2.2.1),le_of_eq (congrArg pI hz11.2.2.2.1),le_of_eq (congrArg pI hz11.2.2.2.2.1),be (ax 1 false) (le_of_eq (congrArg (fun z => pS 1 false ar z) hz11.2.2.2.2.2.1)),be (ax 1 false) (le_of_eq (congrArg (fun z => pS 1 false aj z) hz11.2.2.2.2.2.2.1)),le_of_eq (congrArg au hz11.2.2.2.2.2.2.2.1),le_of_eq (congrArg au hz11.2.2.2.2.2.2.2.2.1),be (ax 1 false) (le_of_eq (congrArg (fun z => pS 1 false az z) hz11.2.2.2.2.2.2.2.2.2)),trivial⟩ (aw (aG (ak (⟨?_,⟨[(0,0),(1,1),(2,2)],by rw [hk]; decide,⟨⟨_,rfl,rfl,rfl⟩,⟨_,rfl,rfl,rfl⟩,⟨_,rfl,rfl,rfl⟩,⟨_,rfl,rfl,rfl⟩,⟨_,rfl,rfl,rfl⟩,trivial⟩,⟨⟨_,_,rfl,rfl,rfl,rfl⟩,⟨_,_,rfl,rfl,rfl,rfl⟩,⟨_,_,rfl,rfl,rfl,rfl⟩,trivial⟩,by rw [hk]; decide⟩⟩))))
    trivial
   have c14_ := c14
   try simp only [sB] at c14
   refine sr (qm N Z Z ?_)
   obtain ⟨G1,hG1⟩ : ∃ z : TRequest,z = cL b := ⟨_,rfl⟩
   refine qo N Z (aO Z Z Z (lF b cl_b G1 hG1 (by omega) (by omega)) Z ?_)
   refine qo N Z (cg bc ?_)
   refine qo N Z (aC bc Z Z Z Z Z (nb Z) ?_)
   refine aE [Yb1,Yb2,Yb,Ya3,Ya8,(9,PV.ptr 3 0)] [(3,.obj (cd G1)),Yb7,Ya1,Y5] 4 ⟨Z,Z,Z,Z,Z,Z,trivial⟩ Z Z (re (cK N (xd 20 [.o 20] [] 4 [(0,.obj [pN (UInt8.toNat e1),pI 0,pI va,pI 0,pI G1.sub,pS 1 false ar G1.bits,pS 1 false aj G1.vals,au G1.and_,au G1.or_,aH]),(3,.obj (cd G1)),Ya1,Y5] (xe [Yb1,Yb2,Yb,Ya3,Ya8] ?_))))
   have hz12 : ((UInt8.toNat e1 : Nat) : Int) = G.fn ∧ 0 = G.code ∧ va = G.at_ ∧ 0 = G.count ∧ G1.sub = G.sub ∧ G1.bits = G.bits ∧ G1.vals = G.vals ∧ G1.and_ = G.and_ ∧ G1.or_ = G.or_ ∧ ([] : List UInt8) = G.data := by and_intros <;> ((rw [hG,yG hb0 (by omega) (by omega) hG1] <;> (first|rfl|exact hva0 (by omega)|exact hva1 (by omega)|exact hva8 (by omega))))
   refine eF (n := 0) (ds := bm G) Z ⟨le_of_eq (congrArg pI hz12.1),le_of_eq (congrArg pI hz12.2.1),le_of_eq (congrArg pI hz12.2.2.1),le_of_eq (congrArg pI hz12.2.2.2.1),le_of_eq (congrArg pI hz12.2.2.2.2.1),le_of_eq (congrArg (fun z => pS 1 false ar z) hz12.2.2.2.2.2.1),le_of_eq (congrArg (fun z => pS 1 false aj z) hz12.2.2.2.2.2.2.1),le_of_eq (congrArg au hz12.2.2.2.2.2.2.2.1),le_of_eq (congrArg au hz12.2.2.2.2.2.2.2.2.1),be (ax 1 false) (le_of_eq (congrArg (fun z => pS 1 false az z) hz12.2.2.2.2.2.2.2.2.2)),trivial⟩ (bG (aG (ak (⟨?_,⟨[(0,0),(1,1),(2,2)],by rw [hk]; decide,⟨⟨_,rfl,rfl,rfl⟩,⟨_,rfl,rfl,rfl⟩,⟨_,rfl,rfl,rfl⟩,⟨_,rfl,rfl,rfl⟩,⟨_,rfl,rfl,rfl⟩,trivial⟩,⟨⟨_,_,rfl,rfl,rfl,rfl⟩,⟨_,_,rfl,rfl,rfl,rfl⟩,⟨_,_,rfl,rfl,rfl,rfl⟩,trivial⟩,by rw [hk]; decide⟩⟩))))
   trivial
  intro hJ
  refine an (an ?_)
  have hgl := uS (b := b) (q := q) (by omega) (by omega)
  rw [← hG] at hgl
  refine cK N (xq 4 [.o 1,.c (pI (bI G)),.o 2] [T Tryz.prog 9 [PV.f (aK G)] 0 [] (Ret (pI (bI G)) 0 [])] ?_ (hc := ⟨(gi G (by omega)),trivial⟩))
  let Ya0 : Nat × PV := (121,pB (!decide (bI G = 0)))
  refine xi 121 [Ya0,Ya8] Z (fun g4 => ?_) (fun g4 => ?_)
  ·have g4' := g4
   try simp only [sB] at g4'
   refine bU [Ya0,Ya8] [Ya4] [] [Ya4] [Ya4,Ya1,Y5] (bj aM Z Z Z (nb Z) ⟨Z,Z,Z⟩) ?_ (hs := ⟨Z,trivial⟩)
   let Ya6 : Nat × Pv.Obj := (3,oB false 1 az (cQ G))
   let Y : ah := [Ya6,Ya4,Ya1,Y5]
   refine cw 121 [Ya0,(122,PV.f (aK G))] Z g4 (bU [Ya0,(122,PV.f (aK G))] [] [] [Ya6] Y (aN 4 (PV.ref 3 0 none) _ [] (jt G (by omega) (by omega)) ⟨Z,Z,Z⟩) (cw 121 [Ya0,(123,PV.ref 3 0 none)] Z g4 (bU [Ya0,(123,PV.ref 3 0 none)] [Ya6] [] [Ya6] Y (qv tab_38 mC Z tab_5 Z Z (ct (f := az) Z Z) ⟨Z,Z,Z⟩) ?_ (hs := ⟨Z,trivial⟩))))
   refine cw 121 [Ya0,Yb1] Z g4 (bU [Ya0,Yb1] [] [] [] Y (d7 Z ⟨Z,Z,Z⟩) (cw 121 [Ya0,(125,pS 1 cl_b az b)] Z g4 (bU [Ya0,(125,pS 1 cl_b az b)] [] [] [] Y (qv tab_38 mC Z tab_5 Z Z (cf (f := az) Z) ⟨Z,Z,Z⟩) (cw 121 [Ya0,(124,pT (cQ G)),(126,pT b)] Z g4 (bU [Ya0,(124,pT (cQ G)),(126,pT b)] [] [] [] Y (wV (l := cQ G) (m := b) Z Z ⟨Z,Z,Z⟩) ?_)))))
   let Y3 : Nat × PV := (129,pB (!decide (cQ G = b)))
   refine xk [Ya0,(127,pB (!decide (cQ G = b)))] [] [] [] Y (bd Z g4 Z ⟨Z,Z,Z⟩) (xq 1 [.o 1] [] (xi 129 [Y3,Ya8] Z (fun g5 => ?_) (fun g5 => ?_)))
   ·have g5' := g5
    try simp only [sB] at g5'
    refine bU [Y3,Ya8] [] [] [] Y (aX aM Z Z aD (by decide) Z ⟨Z,Z,Z⟩) (cw 129 [Y3,(130,PV.ptr 0 1)] Z g5 (bU [Y3,(130,PV.ptr 0 1)] [Ya4] [] [Ya4] Y (bp aD Z Z Z Z Z ⟨Z,Z,Z⟩) ?_ (hs := ⟨Z,trivial⟩)))
    let Y2 : Nat × PV := (133,pB (decide (G.code = 0)))
    let Y8 : ah := [(2,.obj (bm G)),Ya6,Ya4,Ya1]
    refine cw 129 [Y3,(131,pI G.code)] Z g5 (bU [Y3,(131,pI G.code)] [] [] [] Y (bF Z Z ⟨Z,Z,Z⟩) (cw 129 [Y3,(132,pB (decide (G.code = 0)))] Z g5 (bU [Y3,(132,pB (decide (G.code = 0)))] [] [] [] Y (d7 Z ⟨Z,Z,Z⟩) (xi 133 [Y2,Ya3] Z (fun g6 => ?_) (fun g6 => ?_)))))
    ·have g6' := g6
     try simp only [sB] at g6'
     let Y1 : Nat × PV := (155,pB (decide (((UInt8.toNat e1 : Nat) : Int) = 23)))
     let Y4 : Nat × PV := (136,pB (decide (((UInt8.toNat e1 : Nat) : Int) ≤ 2)))
     let Y6 : Nat × PV := (147,pB (decide (((UInt8.toNat e1 : Nat) : Int) = 3)))
     let Y7 : Nat × PV := (151,pB (decide (((UInt8.toNat e1 : Nat) : Int) = 4)))
     let Y9 : Nat × PV := (162,pB (!decide (((G.vals.length : Nat) : Int) = q.count)))
     let Ya : Nat × PV := (163,pB (!decide (((G.vals.length : Nat) : Int) = q.count)))
     let Ya2 : aI := [Yb,Ya8,(165,pB (!decide (((G.vals.length : Nat) : Int) = q.count)))]
     let Ya5 : Nat × PV := (161,pB (!decide (((G.vals.length : Nat) : Int) = q.count)))
     let Ya7 : Nat × PV := (164,pB (!decide (((G.vals.length : Nat) : Int) = q.count)))
     let Yb3 : Nat × PV := (153,pB (decide (((UInt8.toNat e1 : Nat) : Int) = 23)))
     let Yb4 : Nat × PV := (149,pB (decide (((UInt8.toNat e1 : Nat) : Int) = 4)))
     let Yb5 : Nat × PV := (157,pS 1 false aj G.vals)
     let Yb8 : Nat × PV := (148,pN (UInt8.toNat e1))
     let Yb9 : Nat × PV := (152,pN (UInt8.toNat e1))
     let Yc0 : Nat × PV := (158,pN G.vals.length)
     let Yc3 : Nat × PV := (135,pB (decide (((UInt8.toNat e1 : Nat) : Int) ≤ 2)))
     let Yc7 : Nat × PV := (156,PV.ptr 0 6)
     let Yc8 : Nat × PV := (159,PV.ptr 1 2)
     let Yc9 : Nat × PV := (160,pI q.count)
     refine bU [Y2,Ya3] [] [] [] Y (d7 Z ⟨Z,Z,Z⟩) (cw 133 [Y2,(134,pN (UInt8.toNat e1))] Z g6 (bU [Y2,(134,pN (UInt8.toNat e1))] [] [] [] Y (x9 Z Z ⟨Z,Z,Z⟩) (cw 133 [Y2,Yc3] Z g6 (bU [Y2,Yc3] [] [] [] Y (d7 Z ⟨Z,Z,Z⟩) (xi 136 [Y4,Ya8] Z (fun g7 => ?_) (fun g7 => ?_))))))
     ·have g7' := g7
      try simp only [sB] at g7'
      refine bU [Y4,Ya8] [] [] [] Y (aX aM Z Z bT (by decide) Z ⟨Z,Z,Z⟩) (cw 136 [Y4,(137,PV.ptr 0 5)] Z g7 (bU [Y4,(137,PV.ptr 0 5)] [Ya4] [] [Ya4] Y (bp bT Z Z Z Z Z ⟨Z,Z,Z⟩) ?_ (hs := ⟨Z,trivial⟩)))
      refine cw 136 [Y4,(138,pS 1 false ar G.bits)] Z g7 (bU [Y4,(138,pS 1 false ar G.bits)] [] [] [] Y (ca (l := G.bits) bT Z (cf (f := ar) Z) ⟨Z,Z,Z⟩) (cw 136 [Y4,Yb2] Z g7 (bU [Y4,Yb2] [] [] [] Y (aX bc Z Z aD (by decide) Z ⟨Z,Z,Z⟩) (cw 136 [Y4,(140,PV.ptr 1 2)] Z g7 (bU [Y4,(140,PV.ptr 1 2)] [Ya1] [] [Ya1] Y (bp aD Z Z Z Z Z ⟨Z,Z,Z⟩) ?_ (hs := ⟨Z,trivial⟩))))))
      let Yc1 : Nat × PV := (142,pB (!decide (((G.bits.length : Nat) : Int) = q.count)))
      let Yc2 : Nat × PV := (143,pB (!decide (((G.bits.length : Nat) : Int) = q.count)))
      refine cw 136 [Y4,(139,pN G.bits.length),(141,pI q.count)] Z g7 (bU [Y4,(139,pN G.bits.length),(141,pI q.count)] [] [] [] Y (el Z Z ⟨Z,Z,Z⟩) (cw 133 [Y2,Y4,Yc1] Z g6 (bU [Y2,Y4,Yc1] [] [] [] Y (bg Z g7 Z ⟨Z,Z,Z⟩) (cw 133 [Y2,Yc2] Z g6 (bU [Y2,Yc2] [] [] [] Y (d7 Z ⟨Z,Z,Z⟩) ?_)))))
      let Y0 : Nat × PV := (144,pB (!decide (((G.bits.length : Nat) : Int) = q.count)))
      refine xi 144 [Y0,Ya3] Z (fun g8 => ?_) (fun g8 => ?_)
      ·have g8' := g8
       try simp only [sB] at g8'
       let Yc4 : Nat × PV := (146,pB (decide (((UInt8.toNat e1 : Nat) : Int) = 3)))
       refine bU [Y0,Ya3] [] [] [] Y (d7 Z ⟨Z,Z,Z⟩) (cw 144 [Y0,(145,pN (UInt8.toNat e1))] Z g8 (bU [Y0,(145,pN (UInt8.toNat e1))] [] [] [] Y (bF Z Z ⟨Z,Z,Z⟩) (cw 144 [Y0,Yc4] Z g8 (bU [Y0,Yc4] [] [] [] Y (d7 Z ⟨Z,Z,Z⟩) (xi 147 [Y6,Ya3] Z (fun g9 => ?_) (fun g9 => ?_))))))
       ·have g9' := g9
        try simp only [sB] at g9'
        let Yc5 : Nat × PV := (150,pB (decide (((UInt8.toNat e1 : Nat) : Int) = 4)))
        refine bU [Y6,Ya3] [] [] [] Y (d7 Z ⟨Z,Z,Z⟩) (cw 147 [Y6,Yb8] Z g9 (bU [Y6,Yb8] [] [] [] Y (bF Z Z ⟨Z,Z,Z⟩) (cw 144 [Y0,Y6,Yb4] Z g8 (bU [Y0,Y6,Yb4] [] [] [] Y (bd Z g9 Z ⟨Z,Z,Z⟩) (cw 144 [Y0,Yc5] Z g8 ?_)))))
        refine bU [Y0,Yc5] [] [] [] Y (d7 Z ⟨Z,Z,Z⟩) (xi 151 [Y7,Ya3] Z (fun g10 => ?_) (fun g10 => ?_))
        ·have g10' := g10
         try simp only [sB] at g10'
         let Yc6 : Nat × PV := (154,pB (decide (((UInt8.toNat e1 : Nat) : Int) = 23)))
         refine bU [Y7,Ya3] [] [] [] Y (d7 Z ⟨Z,Z,Z⟩) (cw 151 [Y7,Yb9] Z g10 (bU [Y7,Yb9] [] [] [] Y (bF Z Z ⟨Z,Z,Z⟩) (cw 144 [Y0,Y7,Yb3] Z g8 (bU [Y0,Y7,Yb3] [] [] [] Y (bd Z g10 Z ⟨Z,Z,Z⟩) (cw 144 [Y0,Yc6] Z g8 ?_)))))
         refine bU [Y0,Yc6] [] [] [] Y (d7 Z ⟨Z,Z,Z⟩) (xi 155 [Y1,Ya8] Z (fun g11 => ?_) (fun g11 => ?_))
         ·have g11' := g11
          try simp only [sB] at g11'
          refine bU [Y1,Ya8] [] [] [] Y (aX aM Z Z bf (by decide) Z ⟨Z,Z,Z⟩) (cw 155 [Y1,Yc7] Z g11 (bU [Y1,Yc7] [Ya4] [] [Ya4] Y (bp bf Z Z Z Z Z ⟨Z,Z,Z⟩) ?_ (hs := ⟨Z,trivial⟩)))
          refine cw 155 [Y1,Yb5] Z g11 (bU [Y1,Yb5] [] [] [] Y (ca (l := G.vals) bf Z (cf (f := aj) Z) ⟨Z,Z,Z⟩) (cw 155 [Y1,Yb2] Z g11 (bU [Y1,Yb2] [] [] [] Y (aX bc Z Z aD (by decide) Z ⟨Z,Z,Z⟩) (cw 155 [Y1,Yc8] Z g11 (bU [Y1,Yc8] [Ya1] [] [Ya1] Y (bp aD Z Z Z Z Z ⟨Z,Z,Z⟩) ?_ (hs := ⟨Z,trivial⟩))))))
          refine cw 155 [Y1,Yc0,Yc9] Z g11 (bU [Y1,Yc0,Yc9] [] [] [] Y (el Z Z ⟨Z,Z,Z⟩) (cw 144 [Y0,Y1,Ya5] Z g8 (bU [Y0,Y1,Ya5] [] [] [] Y (bg Z g11 Z ⟨Z,Z,Z⟩) (cw 133 [Y2,Y0,Y9] Z g6 (bU [Y2,Y0,Y9] [] [] [] Y (bd Z g8 Z ⟨Z,Z,Z⟩) ?_)))))
          refine cw 129 [Y3,Y2,Ya] Z g5 (bU [Y3,Y2,Ya] [] [] [] Y (bg Z g6 Z ⟨Z,Z,Z⟩) (xk [Y3,Ya7] [] [] [] Y (bd Z g5 Z ⟨Z,Z,Z⟩) (xe Ya2 (re (av Z (fun c16 => ?_) (fun c16 => ?_))))))
          ·have c16_ := c16
           try simp only [sB] at c16
           refine sr (qo N Z (bX aM Z Z (dp ?_)))
           refine qo N Z (aC aM Z Z Z Z Z (nb Z) ?_)
           refine qa N Z Z (aE [Yb,(5,pI 12)] [Y5,Ya6,Ya4,Ya1] 4 ⟨Z,Z,trivial⟩ Z Z (re ?_))
           have hz13 : 0 = R.1.fn ∧ 0 = R.1.code ∧ 0 = R.1.at_ ∧ 0 = R.1.count ∧ 0 = R.1.sub ∧ ([] : List Bool) = R.1.bits ∧ ([] : List UInt16) = R.1.vals ∧ 0 = R.1.and_ ∧ 0 = R.1.or_ ∧ ([] : List UInt8) = R.1.data := by and_intros <;> ((rw [hR,kz (by omega)] <;> rfl))
           exact bH (n := 2) (ds := bm R.1) Z ⟨le_of_eq (congrArg pI hz13.1),le_of_eq (congrArg pI hz13.2.1),le_of_eq (congrArg pI hz13.2.2.1),le_of_eq (congrArg pI hz13.2.2.2.1),le_of_eq (congrArg pI hz13.2.2.2.2.1),be (ax 1 false) (le_of_eq (congrArg (fun z => pS 1 false ar z) hz13.2.2.2.2.2.1)),be (ax 1 false) (le_of_eq (congrArg (fun z => pS 1 false aj z) hz13.2.2.2.2.2.2.1)),le_of_eq (congrArg au hz13.2.2.2.2.2.2.2.1),le_of_eq (congrArg au hz13.2.2.2.2.2.2.2.2.1),be (ax 1 false) (le_of_eq (congrArg (fun z => pS 1 false az z) hz13.2.2.2.2.2.2.2.2.2)),trivial⟩ (aq (s := 5) Z (congrArg pI (show 12 = R.2 by (rw [hR,ez (by omega) hb0 hask hG (fun x y z => by first|contradiction|(exfalso; have hh := cO hb0 x y; rw [if_neg (by omega)] at hh; have z2 := z (by omega); have z3 := eC x (by omega); omega))] <;> rfl))) (w_ret (af fp)))
          have c16_ := c16
          try simp only [sB] at c16
          refine aw (ak (sr (xm N 3 [.o 3] [] [(5,pI 0)] 4 Y8 (re ?_))))
          have hz14 : G.fn = R.1.fn ∧ G.code = R.1.code ∧ G.at_ = R.1.at_ ∧ G.count = R.1.count ∧ G.sub = R.1.sub ∧ G.bits = R.1.bits ∧ G.vals = R.1.vals ∧ G.and_ = R.1.and_ ∧ G.or_ = R.1.or_ ∧ G.data = R.1.data := by and_intros <;> ((rw [hR,dL (by omega) hb0 hask hG (by assumption) (by assumption) (fun h0 => by have hh := cO hb0 (by assumption) (by assumption); rw [if_neg (by omega)] at hh; constructor <;> intro h <;> omega)] <;> rfl))
          exact bH (n := 2) (ds := bm R.1) Z ⟨le_of_eq (congrArg pI hz14.1),le_of_eq (congrArg pI hz14.2.1),le_of_eq (congrArg pI hz14.2.2.1),le_of_eq (congrArg pI hz14.2.2.2.1),le_of_eq (congrArg pI hz14.2.2.2.2.1),le_of_eq (congrArg (fun z => pS 1 false ar z) hz14.2.2.2.2.2.1),le_of_eq (congrArg (fun z => pS 1 false aj z) hz14.2.2.2.2.2.2.1),le_of_eq (congrArg au hz14.2.2.2.2.2.2.2.1),le_of_eq (congrArg au hz14.2.2.2.2.2.2.2.2.1),le_of_eq (congrArg (fun z => pS 1 false az z) hz14.2.2.2.2.2.2.2.2.2),trivial⟩ (aq (s := 5) Z (congrArg pI (show 0 = R.2 by (rw [hR,dL (by omega) hb0 hask hG (by assumption) (by assumption) (fun h0 => by have hh := cO hb0 (by assumption) (by assumption); rw [if_neg (by omega)] at hh; constructor <;> intro h <;> omega)] <;> rfl))) (w_ret fp))
         have g11' := g11
         try simp only [sB] at g11'
         refine dj 155 [Y1,(156,aZ)] Z g11 (dj 155 [Y1,(157,aZ)] Z g11 (dj 155 [Y1,Yb2] Z g11 (dj 155 [Y1,(159,aZ)] Z g11 (dj 155 [Y1,(158,aZ),(160,aZ)] Z g11 (cw 144 [Y0,Y1,(161,aZ)] Z g8 ?_)))))
         refine bU [Y0,Y1,(161,aZ)] [] [] [] Y (bd Z g11 Z ⟨Z,Z,Z⟩) (cw 133 [Y2,Y0,(162,pB false)] Z g6 (bU [Y2,Y0,(162,pB false)] [] [] [] Y (bd Z g8 Z ⟨Z,Z,Z⟩) (cw 129 [Y3,Y2,(163,pB false)] Z g5 (bU [Y3,Y2,(163,pB false)] [] [] [] Y (bg Z g6 Z ⟨Z,Z,Z⟩) (xk [Y3,(164,pB false)] [] [] [] Y (bd Z g5 Z ⟨Z,Z,Z⟩) ?_)))))
         refine xe [Yb,Ya8,(165,pB false)] (re (av Z (fun e => absurd e (by decide)) (fun _ => ?_)))
         refine aw (ak (sr (xm N 3 [.o 3] [] [(5,pI 0)] 4 Y8 (re ?_))))
         have hz15 : G.fn = R.1.fn ∧ G.code = R.1.code ∧ G.at_ = R.1.at_ ∧ G.count = R.1.count ∧ G.sub = R.1.sub ∧ G.bits = R.1.bits ∧ G.vals = R.1.vals ∧ G.and_ = R.1.and_ ∧ G.or_ = R.1.or_ ∧ G.data = R.1.data := by and_intros <;> ((rw [hR,dL (by omega) hb0 hask hG (by assumption) (by assumption) (fun h0 => by have hh := cO hb0 (by assumption) (by assumption); rw [if_neg (by omega)] at hh; constructor <;> intro h <;> omega)] <;> rfl))
         exact bH (n := 2) (ds := bm R.1) Z ⟨le_of_eq (congrArg pI hz15.1),le_of_eq (congrArg pI hz15.2.1),le_of_eq (congrArg pI hz15.2.2.1),le_of_eq (congrArg pI hz15.2.2.2.1),le_of_eq (congrArg pI hz15.2.2.2.2.1),le_of_eq (congrArg (fun z => pS 1 false ar z) hz15.2.2.2.2.2.1),le_of_eq (congrArg (fun z => pS 1 false aj z) hz15.2.2.2.2.2.2.1),le_of_eq (congrArg au hz15.2.2.2.2.2.2.2.1),le_of_eq (congrArg au hz15.2.2.2.2.2.2.2.2.1),le_of_eq (congrArg (fun z => pS 1 false az z) hz15.2.2.2.2.2.2.2.2.2),trivial⟩ (aq (s := 5) Z (congrArg pI (show 0 = R.2 by (rw [hR,dL (by omega) hb0 hask hG (by assumption) (by assumption) (fun h0 => by have hh := cO hb0 (by assumption) (by assumption); rw [if_neg (by omega)] at hh; constructor <;> intro h <;> omega)] <;> rfl))) (w_ret fp))
        have g10' := g10
        try simp only [sB] at g10'
        refine dj 151 [Y7,(152,aZ)] Z g10 (cw 144 [Y0,Y7,(153,aZ)] Z g8 (bU [Y0,Y7,(153,aZ)] [] [] [] Y (bg Z g10 Z ⟨Z,Z,Z⟩) (cw 144 [Y0,(154,pB true)] Z g8 (bU [Y0,(154,pB true)] [] [] [] Y (d7 Z ⟨Z,Z,Z⟩) (xq 6 [.o 2,.c (pN G.vals.length),.o 3] [cC aj G.vals] ?_ (hc := ⟨lenC_ok _ _,trivial⟩))))))
        refine cw 144 [Y0,(155,pB true),Ya5] Z g8 (bU [Y0,(155,pB true),Ya5] [] [] [] Y (bg Z Z Z ⟨Z,Z,Z⟩) (cw 133 [Y2,Y0,Y9] Z g6 (bU [Y2,Y0,Y9] [] [] [] Y (bd Z g8 Z ⟨Z,Z,Z⟩) (cw 129 [Y3,Y2,Ya] Z g5 (bU [Y3,Y2,Ya] [] [] [] Y (bg Z g6 Z ⟨Z,Z,Z⟩) ?_)))))
        refine xk [Y3,Ya7] [] [] [] Y (bd Z g5 Z ⟨Z,Z,Z⟩) (xe Ya2 (re (av Z (fun c17 => ?_) (fun c17 => ?_))))
        ·have c17_ := c17
         try simp only [sB] at c17
         refine sr (qo N Z (bX aM Z Z (dp ?_)))
         refine qo N Z (aC aM Z Z Z Z Z (nb Z) ?_)
         refine qa N Z Z (aE [Yb,(5,pI 12)] [Y5,Ya6,Ya4,Ya1] 4 ⟨Z,Z,trivial⟩ Z Z (re ?_))
         have hz16 : 0 = R.1.fn ∧ 0 = R.1.code ∧ 0 = R.1.at_ ∧ 0 = R.1.count ∧ 0 = R.1.sub ∧ ([] : List Bool) = R.1.bits ∧ ([] : List UInt16) = R.1.vals ∧ 0 = R.1.and_ ∧ 0 = R.1.or_ ∧ ([] : List UInt8) = R.1.data := by and_intros <;> ((rw [hR,kz (by omega)] <;> rfl))
         exact bH (n := 2) (ds := bm R.1) Z ⟨le_of_eq (congrArg pI hz16.1),le_of_eq (congrArg pI hz16.2.1),le_of_eq (congrArg pI hz16.2.2.1),le_of_eq (congrArg pI hz16.2.2.2.1),le_of_eq (congrArg pI hz16.2.2.2.2.1),be (ax 1 false) (le_of_eq (congrArg (fun z => pS 1 false ar z) hz16.2.2.2.2.2.1)),be (ax 1 false) (le_of_eq (congrArg (fun z => pS 1 false aj z) hz16.2.2.2.2.2.2.1)),le_of_eq (congrArg au hz16.2.2.2.2.2.2.2.1),le_of_eq (congrArg au hz16.2.2.2.2.2.2.2.2.1),be (ax 1 false) (le_of_eq (congrArg (fun z => pS 1 false az z) hz16.2.2.2.2.2.2.2.2.2)),trivial⟩ (aq (s := 5) Z (congrArg pI (show 12 = R.2 by (rw [hR,ez (by omega) hb0 hask hG (fun x y z => by first|contradiction|(exfalso; have hh := cO hb0 x y; rw [if_neg (by omega)] at hh; have z2 := z (by omega); have z3 := eC x (by omega); omega))] <;> rfl))) (w_ret (af fp)))
        have c17_ := c17
        try simp only [sB] at c17
        refine aw (ak (sr (xm N 3 [.o 3] [] [(5,pI 0)] 4 Y8 (re ?_))))
        have hz17 : G.fn = R.1.fn ∧ G.code = R.1.code ∧ G.at_ = R.1.at_ ∧ G.count = R.1.count ∧ G.sub = R.1.sub ∧ G.bits = R.1.bits ∧ G.vals = R.1.vals ∧ G.and_ = R.1.and_ ∧ G.or_ = R.1.or_ ∧ G.data = R.1.data := by and_intros <;> ((rw [hR,dL (by omega) hb0 hask hG (by assumption) (by assumption) (fun h0 => by have hh := cO hb0 (by assumption) (by assumption); rw [if_neg (by omega)] at hh; constructor <;> intro h <;> omega)] <;> rfl))
        exact bH (n := 2) (ds := bm R.1) Z ⟨le_of_eq (congrArg pI hz17.1),le_of_eq (congrArg pI hz17.2.1),le_of_eq (congrArg pI hz17.2.2.1),le_of_eq (congrArg pI hz17.2.2.2.1),le_of_eq (congrArg pI hz17.2.2.2.2.1),le_of_eq (congrArg (fun z => pS 1 false ar z) hz17.2.2.2.2.2.1),le_of_eq (congrArg (fun z => pS 1 false aj z) hz17.2.2.2.2.2.2.1),le_of_eq (congrArg au hz17.2.2.2.2.2.2.2.1),le_of_eq (congrArg au hz17.2.2.2.2.2.2.2.2.1),le_of_eq (congrArg (fun z => pS 1 false az z) hz17.2.2.2.2.2.2.2.2.2),trivial⟩ (aq (s := 5) Z (congrArg pI (show 0 = R.2 by (rw [hR,dL (by omega) hb0 hask hG (by assumption) (by assumption) (fun h0 => by have hh := cO hb0 (by assumption) (by assumption); rw [if_neg (by omega)] at hh; constructor <;> intro h <;> omega)] <;> rfl))) (w_ret fp))
       have g9' := g9
       try simp only [sB] at g9'
       refine dj 147 [Y6,(148,aZ)] Z g9 (cw 144 [Y0,Y6,(149,aZ)] Z g8 (bU [Y0,Y6,(149,aZ)] [] [] [] Y (bg Z g9 Z ⟨Z,Z,Z⟩) (cw 144 [Y0,(150,pB true)] Z g8 (bU [Y0,(150,pB true)] [] [] [] Y (d7 Z ⟨Z,Z,Z⟩) (xq 2 [.o 2] [] ?_)))))
       refine cw 144 [Y0,(151,pB true),(153,aZ)] Z g8 (bU [Y0,(151,pB true),(153,aZ)] [] [] [] Y (bg Z Z Z ⟨Z,Z,Z⟩) (cw 144 [Y0,(154,pB true)] Z g8 (bU [Y0,(154,pB true)] [] [] [] Y (d7 Z ⟨Z,Z,Z⟩) (xq 6 [.o 2,.c (pN G.vals.length),.o 3] [cC aj G.vals] ?_ (hc := ⟨lenC_ok _ _,trivial⟩)))))
       refine cw 144 [Y0,(155,pB true),Ya5] Z g8 (bU [Y0,(155,pB true),Ya5] [] [] [] Y (bg Z Z Z ⟨Z,Z,Z⟩) (cw 133 [Y2,Y0,Y9] Z g6 (bU [Y2,Y0,Y9] [] [] [] Y (bd Z g8 Z ⟨Z,Z,Z⟩) (cw 129 [Y3,Y2,Ya] Z g5 (bU [Y3,Y2,Ya] [] [] [] Y (bg Z g6 Z ⟨Z,Z,Z⟩) ?_)))))
       refine xk [Y3,Ya7] [] [] [] Y (bd Z g5 Z ⟨Z,Z,Z⟩) (xe Ya2 (re (av Z (fun c18 => ?_) (fun c18 => ?_))))
       ·have c18_ := c18
        try simp only [sB] at c18
        refine sr (qo N Z (bX aM Z Z (dp ?_)))
        refine qo N Z (aC aM Z Z Z Z Z (nb Z) ?_)
        refine qa N Z Z (aE [Yb,(5,pI 12)] [Y5,Ya6,Ya4,Ya1] 4 ⟨Z,Z,trivial⟩ Z Z (re ?_))
        have hz18 : 0 = R.1.fn ∧ 0 = R.1.code ∧ 0 = R.1.at_ ∧ 0 = R.1.count ∧ 0 = R.1.sub ∧ ([] : List Bool) = R.1.bits ∧ ([] : List UInt16) = R.1.vals ∧ 0 = R.1.and_ ∧ 0 = R.1.or_ ∧ ([] : List UInt8) = R.1.data := by and_intros <;> ((rw [hR,kz (by omega)] <;> rfl))
        exact bH (n := 2) (ds := bm R.1) Z ⟨le_of_eq (congrArg pI hz18.1),le_of_eq (congrArg pI hz18.2.1),le_of_eq (congrArg pI hz18.2.2.1),le_of_eq (congrArg pI hz18.2.2.2.1),le_of_eq (congrArg pI hz18.2.2.2.2.1),be (ax 1 false) (le_of_eq (congrArg (fun z => pS 1 false ar z) hz18.2.2.2.2.2.1)),be (ax 1 false) (le_of_eq (congrArg (fun z => pS 1 false aj z) hz18.2.2.2.2.2.2.1)),le_of_eq (congrArg au hz18.2.2.2.2.2.2.2.1),le_of_eq (congrArg au hz18.2.2.2.2.2.2.2.2.1),be (ax 1 false) (le_of_eq (congrArg (fun z => pS 1 false az z) hz18.2.2.2.2.2.2.2.2.2)),trivial⟩ (aq (s := 5) Z (congrArg pI (show 12 = R.2 by (rw [hR,ez (by omega) hb0 hask hG (fun x y z => by first|contradiction|(exfalso; have hh := cO hb0 x y; rw [if_neg (by omega)] at hh; have z2 := z (by omega); have z3 := eC x (by omega); omega))] <;> rfl))) (w_ret (af fp)))
       have c18_ := c18
       try simp only [sB] at c18
       refine aw (ak (sr (xm N 3 [.o 3] [] [(5,pI 0)] 4 Y8 (re ?_))))
       have hz19 : G.fn = R.1.fn ∧ G.code = R.1.code ∧ G.at_ = R.1.at_ ∧ G.count = R.1.count ∧ G.sub = R.1.sub ∧ G.bits = R.1.bits ∧ G.vals = R.1.vals ∧ G.and_ = R.1.and_ ∧ G.or_ = R.1.or_ ∧ G.data = R.1.data := by and_intros <;> ((rw [hR,dL (by omega) hb0 hask hG (by assumption) (by assumption) (fun h0 => by have hh := cO hb0 (by assumption) (by assumption); rw [if_neg (by omega)] at hh; constructor <;> intro h <;> omega)] <;> rfl))
       exact bH (n := 2) (ds := bm R.1) Z ⟨le_of_eq (congrArg pI hz19.1),le_of_eq (congrArg pI hz19.2.1),le_of_eq (congrArg pI hz19.2.2.1),le_of_eq (congrArg pI hz19.2.2.2.1),le_of_eq (congrArg pI hz19.2.2.2.2.1),le_of_eq (congrArg (fun z => pS 1 false ar z) hz19.2.2.2.2.2.1),le_of_eq (congrArg (fun z => pS 1 false aj z) hz19.2.2.2.2.2.2.1),le_of_eq (congrArg au hz19.2.2.2.2.2.2.2.1),le_of_eq (congrArg au hz19.2.2.2.2.2.2.2.2.1),le_of_eq (congrArg (fun z => pS 1 false az z) hz19.2.2.2.2.2.2.2.2.2),trivial⟩ (aq (s := 5) Z (congrArg pI (show 0 = R.2 by (rw [hR,dL (by omega) hb0 hask hG (by assumption) (by assumption) (fun h0 => by have hh := cO hb0 (by assumption) (by assumption); rw [if_neg (by omega)] at hh; constructor <;> intro h <;> omega)] <;> rfl))) (w_ret fp))
      have g8' := g8
      try simp only [sB] at g8'
      refine dj 144 [Y0,(145,aZ)] Z g8 (dj 144 [Y0,(146,aZ)] Z g8 (xq 2 [.o 2] [] (dj 144 [Y0,(147,aZ),(149,aZ)] Z g8 (dj 144 [Y0,(150,aZ)] Z g8 (xq 2 [.o 2] [] ?_)))))
      refine dj 144 [Y0,(151,aZ),(153,aZ)] Z g8 (dj 144 [Y0,(154,aZ)] Z g8 (xq 6 [.o 6] [] (dj 144 [Y0,(155,aZ),(161,aZ)] Z g8 (cw 133 [Y2,Y0,(162,aZ)] Z g6 (bU [Y2,Y0,(162,aZ)] [] [] [] Y (bg Z g8 Z ⟨Z,Z,Z⟩) ?_)))))
      refine cw 129 [Y3,Y2,(163,pB true)] Z g5 (bU [Y3,Y2,(163,pB true)] [] [] [] Y (bg Z g6 Z ⟨Z,Z,Z⟩) (xk [Y3,(164,pB true)] [] [] [] Y (bd Z g5 Z ⟨Z,Z,Z⟩) (xe [Yb,Ya8,(165,pB true)] (re (av Z (fun _ => ?_) (fun e => absurd e (by decide)))))))
      refine sr (qo N Z (bX aM Z Z (dp ?_)))
      refine qo N Z (aC aM Z Z Z Z Z (nb Z) ?_)
      refine qa N Z Z (aE [Yb,(5,pI 12)] [Y5,Ya6,Ya4,Ya1] 4 ⟨Z,Z,trivial⟩ Z Z (re ?_))
      have hz20 : 0 = R.1.fn ∧ 0 = R.1.code ∧ 0 = R.1.at_ ∧ 0 = R.1.count ∧ 0 = R.1.sub ∧ ([] : List Bool) = R.1.bits ∧ ([] : List UInt16) = R.1.vals ∧ 0 = R.1.and_ ∧ 0 = R.1.or_ ∧ ([] : List UInt8) = R.1.data := by and_intros <;> ((rw [hR,ez (by omega) hb0 hask hG (fun x y z => by first|contradiction|(exfalso; have hh := cO hb0 x y; rw [if_neg (by omega)] at hh; have z2 := z (by omega); have z3 := eC x (by omega); omega))] <;> rfl))
      exact bH (n := 2) (ds := bm R.1) Z ⟨le_of_eq (congrArg pI hz20.1),le_of_eq (congrArg pI hz20.2.1),le_of_eq (congrArg pI hz20.2.2.1),le_of_eq (congrArg pI hz20.2.2.2.1),le_of_eq (congrArg pI hz20.2.2.2.2.1),be (ax 1 false) (le_of_eq (congrArg (fun z => pS 1 false ar z) hz20.2.2.2.2.2.1)),be (ax 1 false) (le_of_eq (congrArg (fun z => pS 1 false aj z) hz20.2.2.2.2.2.2.1)),le_of_eq (congrArg au hz20.2.2.2.2.2.2.2.1),le_of_eq (congrArg au hz20.2.2.2.2.2.2.2.2.1),be (ax 1 false) (le_of_eq (congrArg (fun z => pS 1 false az z) hz20.2.2.2.2.2.2.2.2.2)),trivial⟩ (aq (s := 5) Z (congrArg pI (show 12 = R.2 by (rw [hR,ez (by omega) hb0 hask hG (fun x y z => by first|contradiction|(exfalso; have hh := cO hb0 x y; rw [if_neg (by omega)] at hh; have z2 := z (by omega); have z3 := eC x (by omega); omega))] <;> rfl))) (w_ret (af fp)))
     have g7' := g7
     try simp only [sB] at g7'
     refine dj 136 [Y4,(137,aZ)] Z g7 (dj 136 [Y4,(138,aZ)] Z g7 (dj 136 [Y4,Yb2] Z g7 (dj 136 [Y4,(140,aZ)] Z g7 (dj 136 [Y4,(139,aZ),(141,aZ)] Z g7 (cw 133 [Y2,Y4,(142,aZ)] Z g6 ?_)))))
     let Yb0 : Nat × PV := (144,pB false)
     refine bU [Y2,Y4,(142,aZ)] [] [] [] Y (bd Z g7 Z ⟨Z,Z,Z⟩) (cw 133 [Y2,(143,pB false)] Z g6 (bU [Y2,(143,pB false)] [] [] [] Y (d7 Z ⟨Z,Z,Z⟩) (xq 3 [.o 3] [] (xi 147 [Y6,Ya3] Z (fun g12 => ?_) (fun g12 => ?_)))))
     ·have g12' := g12
      try simp only [sB] at g12'
      refine bU [Y6,Ya3] [] [] [] Y (d7 Z ⟨Z,Z,Z⟩) (cw 147 [Y6,Yb8] Z g12 (bU [Y6,Yb8] [] [] [] Y (bF Z Z ⟨Z,Z,Z⟩) (cw 144 [Yb0,Y6,Yb4] Z Z (bU [Yb0,Y6,Yb4] [] [] [] Y (bd Z g12 Z ⟨Z,Z,Z⟩) (xq 1 [.o 1] [] ?_)))))
      refine xi 151 [Y7,Ya3] Z (fun g13 => ?_) (fun g13 => ?_)
      ·have g13' := g13
       try simp only [sB] at g13'
       refine bU [Y7,Ya3] [] [] [] Y (d7 Z ⟨Z,Z,Z⟩) (cw 151 [Y7,Yb9] Z g13 (bU [Y7,Yb9] [] [] [] Y (bF Z Z ⟨Z,Z,Z⟩) (cw 144 [Yb0,Y7,Yb3] Z Z (bU [Yb0,Y7,Yb3] [] [] [] Y (bd Z g13 Z ⟨Z,Z,Z⟩) (xq 1 [.o 1] [] ?_)))))
       refine xi 155 [Y1,Ya8] Z (fun g14 => ?_) (fun g14 => ?_)
       ·have g14' := g14
        try simp only [sB] at g14'
        refine bU [Y1,Ya8] [] [] [] Y (aX aM Z Z bf (by decide) Z ⟨Z,Z,Z⟩) (cw 155 [Y1,Yc7] Z g14 (bU [Y1,Yc7] [Ya4] [] [Ya4] Y (bp bf Z Z Z Z Z ⟨Z,Z,Z⟩) ?_ (hs := ⟨Z,trivial⟩)))
        refine cw 155 [Y1,Yb5] Z g14 (bU [Y1,Yb5] [] [] [] Y (ca (l := G.vals) bf Z (cf (f := aj) Z) ⟨Z,Z,Z⟩) (cw 155 [Y1,Yb2] Z g14 (bU [Y1,Yb2] [] [] [] Y (aX bc Z Z aD (by decide) Z ⟨Z,Z,Z⟩) (cw 155 [Y1,Yc8] Z g14 (bU [Y1,Yc8] [Ya1] [] [Ya1] Y (bp aD Z Z Z Z Z ⟨Z,Z,Z⟩) ?_ (hs := ⟨Z,trivial⟩))))))
        refine cw 155 [Y1,Yc0,Yc9] Z g14 (bU [Y1,Yc0,Yc9] [] [] [] Y (el Z Z ⟨Z,Z,Z⟩) (cw 144 [Yb0,Y1,Ya5] Z Z (bU [Yb0,Y1,Ya5] [] [] [] Y (bg Z g14 Z ⟨Z,Z,Z⟩) (cw 133 [Y2,Yb0,Y9] Z g6 (bU [Y2,Yb0,Y9] [] [] [] Y (bd Z Z Z ⟨Z,Z,Z⟩) ?_)))))
        refine cw 129 [Y3,Y2,Ya] Z g5 (bU [Y3,Y2,Ya] [] [] [] Y (bg Z g6 Z ⟨Z,Z,Z⟩) (xk [Y3,Ya7] [] [] [] Y (bd Z g5 Z ⟨Z,Z,Z⟩) (xe Ya2 (re (av Z (fun c19 => ?_) (fun c19 => ?_))))))
        ·have c19_ := c19
         try simp only [sB] at c19
         refine sr (qo N Z (bX aM Z Z (dp ?_)))
         refine qo N Z (aC aM Z Z Z Z Z (nb Z) ?_)
         refine qa N Z Z (aE [Yb,(5,pI 12)] [Y5,Ya6,Ya4,Ya1] 4 ⟨Z,Z,trivial⟩ Z Z (re ?_))
         have hz21 : 0 = R.1.fn ∧ 0 = R.1.code ∧ 0 = R.1.at_ ∧ 0 = R.1.count ∧ 0 = R.1.sub ∧ ([] : List Bool) = R.1.bits ∧ ([] : List UInt16) = R.1.vals ∧ 0 = R.1.and_ ∧ 0 = R.1.or_ ∧ ([] : List UInt8) = R.1.data := by and_intros <;> ((rw [hR,ez (by omega) hb0 hask hG (fun x y z => by first|contradiction|(exfalso; have hh := cO hb0 x y; rw [if_neg (by omega)] at hh; have z2 := z (by omega); have z3 := eC x (by omega); omega))] <;> rfl))
         exact bH (n := 2) (ds := bm R.1) Z ⟨le_of_eq (congrArg pI hz21.1),le_of_eq (congrArg pI hz21.2.1),le_of_eq (congrArg pI hz21.2.2.1),le_of_eq (congrArg pI hz21.2.2.2.1),le_of_eq (congrArg pI hz21.2.2.2.2.1),be (ax 1 false) (le_of_eq (congrArg (fun z => pS 1 false ar z) hz21.2.2.2.2.2.1)),be (ax 1 false) (le_of_eq (congrArg (fun z => pS 1 false aj z) hz21.2.2.2.2.2.2.1)),le_of_eq (congrArg au hz21.2.2.2.2.2.2.2.1),le_of_eq (congrArg au hz21.2.2.2.2.2.2.2.2.1),be (ax 1 false) (le_of_eq (congrArg (fun z => pS 1 false az z) hz21.2.2.2.2.2.2.2.2.2)),trivial⟩ (aq (s := 5) Z (congrArg pI (show 12 = R.2 by (rw [hR,ez (by omega) hb0 hask hG (fun x y z => by first|contradiction|(exfalso; have hh := cO hb0 x y; rw [if_neg (by omega)] at hh; have z2 := z (by omega); have z3 := eC x (by omega); omega))] <;> rfl))) (w_ret (af fp)))
        have c19_ := c19
        try simp only [sB] at c19
        refine aw (ak (sr (xm N 3 [.o 3] [] [(5,pI 0)] 4 Y8 (re ?_))))
        have hz22 : G.fn = R.1.fn ∧ G.code = R.1.code ∧ G.at_ = R.1.at_ ∧ G.count = R.1.count ∧ G.sub = R.1.sub ∧ G.bits = R.1.bits ∧ G.vals = R.1.vals ∧ G.and_ = R.1.and_ ∧ G.or_ = R.1.or_ ∧ G.data = R.1.data := by and_intros <;> ((rw [hR,dL (by omega) hb0 hask hG (by assumption) (by assumption) (fun h0 => by have hh := cO hb0 (by assumption) (by assumption); rw [if_neg (by omega)] at hh; constructor <;> intro h <;> omega)] <;> rfl))
        exact bH (n := 2) (ds := bm R.1) Z ⟨le_of_eq (congrArg pI hz22.1),le_of_eq (congrArg pI hz22.2.1),le_of_eq (congrArg pI hz22.2.2.1),le_of_eq (congrArg pI hz22.2.2.2.1),le_of_eq (congrArg pI hz22.2.2.2.2.1),le_of_eq (congrArg (fun z => pS 1 false ar z) hz22.2.2.2.2.2.1),le_of_eq (congrArg (fun z => pS 1 false aj z) hz22.2.2.2.2.2.2.1),le_of_eq (congrArg au hz22.2.2.2.2.2.2.2.1),le_of_eq (congrArg au hz22.2.2.2.2.2.2.2.2.1),le_of_eq (congrArg (fun z => pS 1 false az z) hz22.2.2.2.2.2.2.2.2.2),trivial⟩ (aq (s := 5) Z (congrArg pI (show 0 = R.2 by (rw [hR,dL (by omega) hb0 hask hG (by assumption) (by assumption) (fun h0 => by have hh := cO hb0 (by assumption) (by assumption); rw [if_neg (by omega)] at hh; constructor <;> intro h <;> omega)] <;> rfl))) (w_ret fp))
       have g14' := g14
       try simp only [sB] at g14'
       refine dj 155 [Y1,(156,aZ)] Z g14 (dj 155 [Y1,(157,aZ)] Z g14 (dj 155 [Y1,Yb2] Z g14 (dj 155 [Y1,(159,aZ)] Z g14 (dj 155 [Y1,(158,aZ),(160,aZ)] Z g14 (cw 144 [Yb0,Y1,(161,aZ)] Z Z ?_)))))
       refine bU [Yb0,Y1,(161,aZ)] [] [] [] Y (bd Z g14 Z ⟨Z,Z,Z⟩) (cw 133 [Y2,Yb0,(162,pB false)] Z g6 (bU [Y2,Yb0,(162,pB false)] [] [] [] Y (bd Z Z Z ⟨Z,Z,Z⟩) (cw 129 [Y3,Y2,(163,pB false)] Z g5 (bU [Y3,Y2,(163,pB false)] [] [] [] Y (bg Z g6 Z ⟨Z,Z,Z⟩) (xk [Y3,(164,pB false)] [] [] [] Y (bd Z g5 Z ⟨Z,Z,Z⟩) ?_)))))
       refine xe [Yb,Ya8,(165,pB false)] (re (av Z (fun e => absurd e (by decide)) (fun _ => ?_)))
       refine aw (ak (sr (xm N 3 [.o 3] [] [(5,pI 0)] 4 Y8 (re ?_))))
       have hz23 : G.fn = R.1.fn ∧ G.code = R.1.code ∧ G.at_ = R.1.at_ ∧ G.count = R.1.count ∧ G.sub = R.1.sub ∧ G.bits = R.1.bits ∧ G.vals = R.1.vals ∧ G.and_ = R.1.and_ ∧ G.or_ = R.1.or_ ∧ G.data = R.1.data := by and_intros <;> ((rw [hR,dL (by omega) hb0 hask hG (by assumption) (by assumption) (fun h0 => by have hh := cO hb0 (by assumption) (by assumption); rw [if_neg (by omega)] at hh; constructor <;> intro h <;> omega)] <;> rfl))
       exact bH (n := 2) (ds := bm R.1) Z ⟨le_of_eq (congrArg pI hz23.1),le_of_eq (congrArg pI hz23.2.1),le_of_eq (congrArg pI hz23.2.2.1),le_of_eq (congrArg pI hz23.2.2.2.1),le_of_eq (congrArg pI hz23.2.2.2.2.1),le_of_eq (congrArg (fun z => pS 1 false ar z) hz23.2.2.2.2.2.1),le_of_eq (congrArg (fun z => pS 1 false aj z) hz23.2.2.2.2.2.2.1),le_of_eq (congrArg au hz23.2.2.2.2.2.2.2.1),le_of_eq (congrArg au hz23.2.2.2.2.2.2.2.2.1),le_of_eq (congrArg (fun z => pS 1 false az z) hz23.2.2.2.2.2.2.2.2.2),trivial⟩ (aq (s := 5) Z (congrArg pI (show 0 = R.2 by (rw [hR,dL (by omega) hb0 hask hG (by assumption) (by assumption) (fun h0 => by have hh := cO hb0 (by assumption) (by assumption); rw [if_neg (by omega)] at hh; constructor <;> intro h <;> omega)] <;> rfl))) (w_ret fp))
      have g13' := g13
      try simp only [sB] at g13'
      refine dj 151 [Y7,(152,aZ)] Z g13 (cw 144 [Yb0,Y7,(153,aZ)] Z Z (bU [Yb0,Y7,(153,aZ)] [] [] [] Y (bg Z g13 Z ⟨Z,Z,Z⟩) (xq 8 [.o 3,.c (pN G.vals.length),.o 4] [cC aj G.vals] ?_ (hc := ⟨lenC_ok _ _,trivial⟩))))
      refine cw 133 [Y2,Yb0,Y9] Z g6 (bU [Y2,Yb0,Y9] [] [] [] Y (bd Z Z Z ⟨Z,Z,Z⟩) (cw 129 [Y3,Y2,Ya] Z g5 (bU [Y3,Y2,Ya] [] [] [] Y (bg Z g6 Z ⟨Z,Z,Z⟩) (xk [Y3,Ya7] [] [] [] Y (bd Z g5 Z ⟨Z,Z,Z⟩) (xe Ya2 ?_)))))
      refine re (av Z (fun c20 => ?_) (fun c20 => ?_))
      ·have c20_ := c20
       try simp only [sB] at c20
       refine sr (qo N Z (bX aM Z Z (dp ?_)))
       refine qo N Z (aC aM Z Z Z Z Z (nb Z) ?_)
       refine qa N Z Z (aE [Yb,(5,pI 12)] [Y5,Ya6,Ya4,Ya1] 4 ⟨Z,Z,trivial⟩ Z Z (re ?_))
       have hz24 : 0 = R.1.fn ∧ 0 = R.1.code ∧ 0 = R.1.at_ ∧ 0 = R.1.count ∧ 0 = R.1.sub ∧ ([] : List Bool) = R.1.bits ∧ ([] : List UInt16) = R.1.vals ∧ 0 = R.1.and_ ∧ 0 = R.1.or_ ∧ ([] : List UInt8) = R.1.data := by and_intros <;> ((rw [hR,ez (by omega) hb0 hask hG (fun x y z => by first|contradiction|(exfalso; have hh := cO hb0 x y; rw [if_neg (by omega)] at hh; have z2 := z (by omega); have z3 := eC x (by omega); omega))] <;> rfl))
       exact bH (n := 2) (ds := bm R.1) Z ⟨le_of_eq (congrArg pI hz24.1),le_of_eq (congrArg pI hz24.2.1),le_of_eq (congrArg pI hz24.2.2.1),le_of_eq (congrArg pI hz24.2.2.2.1),le_of_eq (congrArg pI hz24.2.2.2.2.1),be (ax 1 false) (le_of_eq (congrArg (fun z => pS 1 false ar z) hz24.2.2.2.2.2.1)),be (ax 1 false) (le_of_eq (congrArg (fun z => pS 1 false aj z) hz24.2.2.2.2.2.2.1)),le_of_eq (congrArg au hz24.2.2.2.2.2.2.2.1),le_of_eq (congrArg au hz24.2.2.2.2.2.2.2.2.1),be (ax 1 false) (le_of_eq (congrArg (fun z => pS 1 false az z) hz24.2.2.2.2.2.2.2.2.2)),trivial⟩ (aq (s := 5) Z (congrArg pI (show 12 = R.2 by (rw [hR,ez (by omega) hb0 hask hG (fun x y z => by first|contradiction|(exfalso; have hh := cO hb0 x y; rw [if_neg (by omega)] at hh; have z2 := z (by omega); have z3 := eC x (by omega); omega))] <;> rfl))) (w_ret (af fp)))
      have c20_ := c20
      try simp only [sB] at c20
      refine aw (ak (sr (xm N 3 [.o 3] [] [(5,pI 0)] 4 Y8 (re ?_))))
      have hz25 : G.fn = R.1.fn ∧ G.code = R.1.code ∧ G.at_ = R.1.at_ ∧ G.count = R.1.count ∧ G.sub = R.1.sub ∧ G.bits = R.1.bits ∧ G.vals = R.1.vals ∧ G.and_ = R.1.and_ ∧ G.or_ = R.1.or_ ∧ G.data = R.1.data := by and_intros <;> ((rw [hR,dL (by omega) hb0 hask hG (by assumption) (by assumption) (fun h0 => by have hh := cO hb0 (by assumption) (by assumption); rw [if_neg (by omega)] at hh; constructor <;> intro h <;> omega)] <;> rfl))
      exact bH (n := 2) (ds := bm R.1) Z ⟨le_of_eq (congrArg pI hz25.1),le_of_eq (congrArg pI hz25.2.1),le_of_eq (congrArg pI hz25.2.2.1),le_of_eq (congrArg pI hz25.2.2.2.1),le_of_eq (congrArg pI hz25.2.2.2.2.1),le_of_eq (congrArg (fun z => pS 1 false ar z) hz25.2.2.2.2.2.1),le_of_eq (congrArg (fun z => pS 1 false aj z) hz25.2.2.2.2.2.2.1),le_of_eq (congrArg au hz25.2.2.2.2.2.2.2.1),le_of_eq (congrArg au hz25.2.2.2.2.2.2.2.2.1),le_of_eq (congrArg (fun z => pS 1 false az z) hz25.2.2.2.2.2.2.2.2.2),trivial⟩ (aq (s := 5) Z (congrArg pI (show 0 = R.2 by (rw [hR,dL (by omega) hb0 hask hG (by assumption) (by assumption) (fun h0 => by have hh := cO hb0 (by assumption) (by assumption); rw [if_neg (by omega)] at hh; constructor <;> intro h <;> omega)] <;> rfl))) (w_ret fp))
     have g12' := g12
     try simp only [sB] at g12'
     refine dj 147 [Y6,(148,aZ)] Z g12 (cw 144 [Yb0,Y6,(149,aZ)] Z Z (bU [Yb0,Y6,(149,aZ)] [] [] [] Y (bg Z g12 Z ⟨Z,Z,Z⟩) (xq 12 [.o 7,.c (pN G.vals.length),.o 4] [cC aj G.vals] ?_ (hc := ⟨lenC_ok _ _,trivial⟩))))
     refine cw 133 [Y2,Yb0,Y9] Z g6 (bU [Y2,Yb0,Y9] [] [] [] Y (bd Z Z Z ⟨Z,Z,Z⟩) (cw 129 [Y3,Y2,Ya] Z g5 (bU [Y3,Y2,Ya] [] [] [] Y (bg Z g6 Z ⟨Z,Z,Z⟩) (xk [Y3,Ya7] [] [] [] Y (bd Z g5 Z ⟨Z,Z,Z⟩) (xe Ya2 ?_)))))
     refine re (av Z (fun c21 => ?_) (fun c21 => ?_))
     ·have c21_ := c21
      try simp only [sB] at c21
      refine sr (qo N Z (bX aM Z Z (dp ?_)))
      refine qo N Z (aC aM Z Z Z Z Z (nb Z) ?_)
      refine qa N Z Z (aE [Yb,(5,pI 12)] [Y5,Ya6,Ya4,Ya1] 4 ⟨Z,Z,trivial⟩ Z Z (re ?_))
      have hz26 : 0 = R.1.fn ∧ 0 = R.1.code ∧ 0 = R.1.at_ ∧ 0 = R.1.count ∧ 0 = R.1.sub ∧ ([] : List Bool) = R.1.bits ∧ ([] : List UInt16) = R.1.vals ∧ 0 = R.1.and_ ∧ 0 = R.1.or_ ∧ ([] : List UInt8) = R.1.data := by and_intros <;> ((rw [hR,ez (by omega) hb0 hask hG (fun x y z => by first|contradiction|(exfalso; have hh := cO hb0 x y; rw [if_neg (by omega)] at hh; have z2 := z (by omega); have z3 := eC x (by omega); omega))] <;> rfl))
      exact bH (n := 2) (ds := bm R.1) Z ⟨le_of_eq (congrArg pI hz26.1),le_of_eq (congrArg pI hz26.2.1),le_of_eq (congrArg pI hz26.2.2.1),le_of_eq (congrArg pI hz26.2.2.2.1),le_of_eq (congrArg pI hz26.2.2.2.2.1),be (ax 1 false) (le_of_eq (congrArg (fun z => pS 1 false ar z) hz26.2.2.2.2.2.1)),be (ax 1 false) (le_of_eq (congrArg (fun z => pS 1 false aj z) hz26.2.2.2.2.2.2.1)),le_of_eq (congrArg au hz26.2.2.2.2.2.2.2.1),le_of_eq (congrArg au hz26.2.2.2.2.2.2.2.2.1),be (ax 1 false) (le_of_eq (congrArg (fun z => pS 1 false az z) hz26.2.2.2.2.2.2.2.2.2)),trivial⟩ (aq (s := 5) Z (congrArg pI (show 12 = R.2 by (rw [hR,ez (by omega) hb0 hask hG (fun x y z => by first|contradiction|(exfalso; have hh := cO hb0 x y; rw [if_neg (by omega)] at hh; have z2 := z (by omega); have z3 := eC x (by omega); omega))] <;> rfl))) (w_ret (af fp)))
     have c21_ := c21
     try simp only [sB] at c21
     refine aw (ak (sr (xm N 3 [.o 3] [] [(5,pI 0)] 4 Y8 (re ?_))))
     have hz27 : G.fn = R.1.fn ∧ G.code = R.1.code ∧ G.at_ = R.1.at_ ∧ G.count = R.1.count ∧ G.sub = R.1.sub ∧ G.bits = R.1.bits ∧ G.vals = R.1.vals ∧ G.and_ = R.1.and_ ∧ G.or_ = R.1.or_ ∧ G.data = R.1.data := by and_intros <;> ((rw [hR,dL (by omega) hb0 hask hG (by assumption) (by assumption) (fun h0 => by have hh := cO hb0 (by assumption) (by assumption); rw [if_neg (by omega)] at hh; constructor <;> intro h <;> omega)] <;> rfl))
     exact bH (n := 2) (ds := bm R.1) Z ⟨le_of_eq (congrArg pI hz27.1),le_of_eq (congrArg pI hz27.2.1),le_of_eq (congrArg pI hz27.2.2.1),le_of_eq (congrArg pI hz27.2.2.2.1),le_of_eq (congrArg pI hz27.2.2.2.2.1),le_of_eq (congrArg (fun z => pS 1 false ar z) hz27.2.2.2.2.2.1),le_of_eq (congrArg (fun z => pS 1 false aj z) hz27.2.2.2.2.2.2.1),le_of_eq (congrArg au hz27.2.2.2.2.2.2.2.1),le_of_eq (congrArg au hz27.2.2.2.2.2.2.2.2.1),le_of_eq (congrArg (fun z => pS 1 false az z) hz27.2.2.2.2.2.2.2.2.2),trivial⟩ (aq (s := 5) Z (congrArg pI (show 0 = R.2 by (rw [hR,dL (by omega) hb0 hask hG (by assumption) (by assumption) (fun h0 => by have hh := cO hb0 (by assumption) (by assumption); rw [if_neg (by omega)] at hh; constructor <;> intro h <;> omega)] <;> rfl))) (w_ret fp))
    have g6' := g6
    try simp only [sB] at g6'
    refine dj 133 [Y2,(134,aZ)] Z g6 (dj 133 [Y2,(135,aZ)] Z g6 (xq 6 [.o 6] [] (dj 133 [Y2,(136,aZ),(142,aZ)] Z g6 (dj 133 [Y2,(143,aZ)] Z g6 (xq 18 [.o 18] [] ?_)))))
    refine dj 133 [Y2,(144,aZ),(162,aZ)] Z g6 (cw 129 [Y3,Y2,(163,aZ)] Z g5 (bU [Y3,Y2,(163,aZ)] [] [] [] Y (bd Z g6 Z ⟨Z,Z,Z⟩) (xk [Y3,(164,pB false)] [] [] [] Y (bd Z g5 Z ⟨Z,Z,Z⟩) (xe [Yb,Ya8,(165,pB false)] (re ?_)))))
    refine av Z (fun e => absurd e (by decide)) (fun _ => ?_)
    refine aw (ak (sr (xm N 3 [.o 3] [] [(5,pI 0)] 4 Y8 (re ?_))))
    have hz28 : G.fn = R.1.fn ∧ G.code = R.1.code ∧ G.at_ = R.1.at_ ∧ G.count = R.1.count ∧ G.sub = R.1.sub ∧ G.bits = R.1.bits ∧ G.vals = R.1.vals ∧ G.and_ = R.1.and_ ∧ G.or_ = R.1.or_ ∧ G.data = R.1.data := by and_intros <;> ((rw [hR,dL (by omega) hb0 hask hG (by assumption) (by assumption) (fun h0 => by have hh := cO hb0 (by assumption) (by assumption); rw [if_neg (by omega)] at hh; constructor <;> intro h <;> omega)] <;> rfl))
    exact bH (n := 2) (ds := bm R.1) Z ⟨le_of_eq (congrArg pI hz28.1),le_of_eq (congrArg pI hz28.2.1),le_of_eq (congrArg pI hz28.2.2.1),le_of_eq (congrArg pI hz28.2.2.2.1),le_of_eq (congrArg pI hz28.2.2.2.2.1),le_of_eq (congrArg (fun z => pS 1 false ar z) hz28.2.2.2.2.2.1),le_of_eq (congrArg (fun z => pS 1 false aj z) hz28.2.2.2.2.2.2.1),le_of_eq (congrArg au hz28.2.2.2.2.2.2.2.1),le_of_eq (congrArg au hz28.2.2.2.2.2.2.2.2.1),le_of_eq (congrArg (fun z => pS 1 false az z) hz28.2.2.2.2.2.2.2.2.2),trivial⟩ (aq (s := 5) Z (congrArg pI (show 0 = R.2 by (rw [hR,dL (by omega) hb0 hask hG (by assumption) (by assumption) (fun h0 => by have hh := cO hb0 (by assumption) (by assumption); rw [if_neg (by omega)] at hh; constructor <;> intro h <;> omega)] <;> rfl))) (w_ret fp))
   have g5' := g5
   try simp only [sB] at g5'
   refine dj 129 [Y3,(130,aZ)] Z g5 (dj 129 [Y3,(131,aZ)] Z g5 (dj 129 [Y3,(132,aZ)] Z g5 (xq 30 [.o 30] [] (dj 129 [Y3,(133,aZ),(163,aZ)] Z g5 (xk [Y3,(164,aZ)] [] [] [] Y (bg Z g5 Z ⟨Z,Z,Z⟩) ?_)))))
   refine xe [Yb,Ya8,(165,pB true)] (re (av Z (fun _ => ?_) (fun e => absurd e (by decide))))
   refine sr (qo N Z (bX aM Z Z (dp ?_)))
   refine qo N Z (aC aM Z Z Z Z Z (nb Z) ?_)
   refine qa N Z Z (aE [Yb,(5,pI 12)] [Y5,Ya6,Ya4,Ya1] 4 ⟨Z,Z,trivial⟩ Z Z (re ?_))
   have hz29 : 0 = R.1.fn ∧ 0 = R.1.code ∧ 0 = R.1.at_ ∧ 0 = R.1.count ∧ 0 = R.1.sub ∧ ([] : List Bool) = R.1.bits ∧ ([] : List UInt16) = R.1.vals ∧ 0 = R.1.and_ ∧ 0 = R.1.or_ ∧ ([] : List UInt8) = R.1.data := by and_intros <;> ((rw [hR,ez (by omega) hb0 hask hG (fun x y z => by first|contradiction|(exfalso; have hh := cO hb0 x y; rw [if_neg (by omega)] at hh; have z2 := z (by omega); have z3 := eC x (by omega); omega))] <;> rfl))
   exact bH (n := 2) (ds := bm R.1) Z ⟨le_of_eq (congrArg pI hz29.1),le_of_eq (congrArg pI hz29.2.1),le_of_eq (congrArg pI hz29.2.2.1),le_of_eq (congrArg pI hz29.2.2.2.1),le_of_eq (congrArg pI hz29.2.2.2.2.1),be (ax 1 false) (le_of_eq (congrArg (fun z => pS 1 false ar z) hz29.2.2.2.2.2.1)),be (ax 1 false) (le_of_eq (congrArg (fun z => pS 1 false aj z) hz29.2.2.2.2.2.2.1)),le_of_eq (congrArg au hz29.2.2.2.2.2.2.2.1),le_of_eq (congrArg au hz29.2.2.2.2.2.2.2.2.1),be (ax 1 false) (le_of_eq (congrArg (fun z => pS 1 false az z) hz29.2.2.2.2.2.2.2.2.2)),trivial⟩ (aq (s := 5) Z (congrArg pI (show 12 = R.2 by (rw [hR,ez (by omega) hb0 hask hG (fun x y z => by first|contradiction|(exfalso; have hh := cO hb0 x y; rw [if_neg (by omega)] at hh; have z2 := z (by omega); have z3 := eC x (by omega); omega))] <;> rfl))) (w_ret (af fp)))
  have g4' := g4
  try simp only [sB] at g4'
  refine dj 121 [Ya0,(122,aZ)] Z g4 (dj 121 [Ya0,(123,aZ)] Z g4 (dj 121 [Ya0,Yb1] Z g4 (dj 121 [Ya0,(125,aZ)] Z g4 (dj 121 [Ya0,(124,aZ),(126,aZ)] Z g4 (xk [Ya0,(127,aZ)] [] [] [] [Ya4,Ya1,Y5] (bg Z g4 Z ⟨Z,Z,Z⟩) ?_)))))
  refine xq 37 [.o 37] [] (xe [Yb,Ya8,(165,pB true)] (re (av Z (fun _ => ?_) (fun e => absurd e (by decide)))))
  refine sr (qo N Z (bX aM Z Z (dp ?_)))
  refine qo N Z (aC aM Z Z Z Z Z (nb Z) ?_)
  refine qa N Z Z (aE [Yb,(5,pI 12)] [Y5,Ya4,Ya1] 3 ⟨Z,Z,trivial⟩ Z Z (re ?_))
  have hz30 : 0 = R.1.fn ∧ 0 = R.1.code ∧ 0 = R.1.at_ ∧ 0 = R.1.count ∧ 0 = R.1.sub ∧ ([] : List Bool) = R.1.bits ∧ ([] : List UInt16) = R.1.vals ∧ 0 = R.1.and_ ∧ 0 = R.1.or_ ∧ ([] : List UInt8) = R.1.data := by and_intros <;> ((rw [hR,ez (by omega) hb0 hask hG (fun x y z => by first|contradiction|(exfalso; have hh := cO hb0 x y; rw [if_neg (by omega)] at hh; have z2 := z (by omega); have z3 := eC x (by omega); omega))] <;> rfl))
  exact bH (n := 2) (ds := bm R.1) Z ⟨le_of_eq (congrArg pI hz30.1),le_of_eq (congrArg pI hz30.2.1),le_of_eq (congrArg pI hz30.2.2.1),le_of_eq (congrArg pI hz30.2.2.2.1),le_of_eq (congrArg pI hz30.2.2.2.2.1),be (ax 1 false) (le_of_eq (congrArg (fun z => pS 1 false ar z) hz30.2.2.2.2.2.1)),be (ax 1 false) (le_of_eq (congrArg (fun z => pS 1 false aj z) hz30.2.2.2.2.2.2.1)),le_of_eq (congrArg au hz30.2.2.2.2.2.2.2.1),le_of_eq (congrArg au hz30.2.2.2.2.2.2.2.2.1),be (ax 1 false) (le_of_eq (congrArg (fun z => pS 1 false az z) hz30.2.2.2.2.2.2.2.2.2)),trivial⟩ (aq (s := 5) Z (congrArg pI (show 12 = R.2 by (rw [hR,ez (by omega) hb0 hask hG (fun x y z => by first|contradiction|(exfalso; have hh := cO hb0 x y; rw [if_neg (by omega)] at hh; have z2 := z (by omega); have z3 := eC x (by omega); omega))] <;> rfl))) (w_ret (af fp)))
theorem w_burgagelaw15_known   :
    T Tryz.prog 11 [] 0 [] (Ret (pB true) 0 []) := by
 refine bn aF (n := 98) (rs := [.tmp 0]) Tryz.func11 Z Z Z Z (nb Z) ?_
 intro c N hk
 refine sr (ae N Z Z (sr (qo N Z (bX cS Z Z (br Z aD Z Z Z (nb Z) (br Z aD Z Z Z (nb Z) (br Z aD Z Z Z (nb Z) (br Z aD Z Z Z (nb Z) (fX (cs' := [pI 3,pI 0,pI 100,pI 4]) Z ?_)))))))))
 refine qo N Z (bX cS Z Z (br Z aD Z Z Z (nb Z) (br Z aD Z Z Z (nb Z) (br Z aD Z Z Z (nb Z) (br Z aD Z Z Z (nb Z) (fX (cs' := [pI 3,pI 4,pI 50,pI 4]) Z ?_))))))
 refine qo N Z (bM (f := aR) [(⟨3,0,100,4⟩ : TWindow),(⟨3,4,50,4⟩ : TWindow)] cT Z cS ⟨Z,by decide⟩ (by decide) Z Z Z Z ?_)
 refine qo N Z (bX dG Z Z (br Z aD Z Z Z (nb Z) (br Z jS Z Z Z (nb Z) (br Z cT Z Z Z (nb Z) (fX (cs' := [pI 1,pK .u32 65800,pI 0,PV.ref 0 0 none,aH]) Z ?_)))))
 refine qo N Z (cg dG ?_)
 refine qo N Z (aC dG Z Z Z Z Z (nb Z) ?_)
 let Y0 : Nat × Pv.Obj := (1,.obj [pI 1,pK .u32 65800,pI 0,PV.ref 0 0 none,aH])
 let Yc0 : Nat × PV := (1,PV.ptr 1 0)
 refine aE [Yc0] [Y0,(0,oB true 4 aR [(⟨3,0,100,4⟩ : TWindow),(⟨3,4,50,4⟩ : TWindow)])] 2 ⟨Z,trivial⟩ Z Z (re (an (eN (H' := [Y0,(0,oB true 4 aR LK)]) (congrArg (fun z => ([Y0,(0,oB true 4 aR z)] : ah)) (show [(⟨3,0,100,4⟩ : TWindow),(⟨3,4,50,4⟩ : TWindow)] = LK by rfl)) (bk (qo N Z (bX bc Z Z (br Z aD Z Z Z (nb Z) (br Z aD Z Z Z (nb Z) (br Z aD Z Z Z (nb Z) (fX (cs' := [pI 3,pI 2,pI 4,pI 0,pI 0,aH,aH,au 0,au 0]) Z ?_))))))))))
 refine qo N Z (cg bc ?_)
 refine qo N Z (aC bc Z Z Z Z Z (nb Z) ?_)
 let Y1 : Nat × Pv.Obj := (2,.obj [pI 3,pI 2,pI 4,pI 0,pI 0,aH,aH,au 0,au 0])
 let Yc1 : Nat × PV := (2,PV.ptr 2 0)
 refine aE [Yc0,Yc1] [Y1,Y0,(0,oB true 4 aR LK)] 3 ⟨Z,Z,trivial⟩ Z Z (re (sr (qo N Z (bj dG Z Z Z (nb Z) ?_))))
 refine qo N Z (bj bc Z Z Z (nb Z) ?_)
 refine qo N Z (bM (f := aj) ([1,2] : List UInt16) bf Z bE ⟨Z,by decide⟩ (by decide) Z Z Z Z ?_)
 refine qo N Z (bX aM Z Z (br Z aD Z Z Z (nb Z) (br Z bf Z Z Z (nb Z) (dp ?_))))
 refine qo N Z (bM (f := aj) ([3,4] : List UInt16) bf Z bE ⟨Z,by decide⟩ (by decide) Z Z Z Z ?_)
 refine qo N Z (bX aM Z Z (br Z aD Z Z Z (nb Z) (br Z bf Z Z Z (nb Z) (dp ?_))))
 refine lj (s := 17) Z Z (jq (s := 17) (y := PV.f (aK (⟨3,0,0,0,0,[],([1,2] : List UInt16),0,0,[]⟩ : TReply))) Z (ed (FLe.agg ⟨FLe.refl _,FLe.refl _,FLe.refl _,FLe.refl _,FLe.refl _,FLe.nil 1 false,FLe.refl _,FLe.refl _,FLe.refl _,FLe.nil 1 false,trivial⟩)) (lj (s := 19) Z Z (jq (s := 19) (y := PV.f (aK (⟨3,0,0,0,0,[],([3,4] : List UInt16),0,0,[]⟩ : TReply))) Z (ed (FLe.agg ⟨FLe.refl _,FLe.refl _,FLe.refl _,FLe.refl _,FLe.refl _,FLe.nil 1 false,FLe.refl _,FLe.refl _,FLe.refl _,FLe.nil 1 false,trivial⟩)) (qo N Z (bM (f := aK) [(⟨3,0,0,0,0,[],([1,2] : List UInt16),0,0,[]⟩ : TReply),(⟨3,0,0,0,0,[],([3,4] : List UInt16),0,0,[]⟩ : TReply)] de Z aM ⟨Z,by decide⟩ (by decide) Z Z Z Z ?_)))))
 obtain ⟨J1,hJ1⟩ : ∃ z : TReply,z = dt (⟨1,65800,0,LK,[]⟩ : TTenant).functions (⟨1,65800,0,LK,[]⟩ : TTenant).windows (⟨3,2,4,0,0,[],[],0,0⟩ : TRequest) ([(⟨3,0,0,0,0,[],([1,2] : List UInt16),0,0,[]⟩ : TReply),(⟨3,0,0,0,0,[],([3,4] : List UInt16),0,0,[]⟩ : TReply)]) := ⟨_,rfl⟩
 let Y2 : Nat × Pv.Obj := (4,oB false 1 aj ([3,4] : List UInt16))
 let Y3 : Nat × Pv.Obj := (3,oB false 1 aj ([1,2] : List UInt16))
 let Y8 : Nat × Pv.Obj := (0,oB false 4 aR LK)
 let Ya5 : Nat × Pv.Obj := (5,oB false 10 aK ([(⟨3,0,0,0,0,[],([1,2] : List UInt16),0,0,[]⟩ : TReply),(⟨3,0,0,0,0,[],([3,4] : List UInt16),0,0,[]⟩ : TReply)]))
 refine qo N Z (aN 6 (PV.f (aK J1)) [Ya5,Y8,Y2,Y3,Y1,Y0] [] (T.leL (args := [PV.f (.agg [ay 1,FV.v (.int .u32 65800),ay 0,FV.sl 4 false (List.map aR LK),FV.v (.slice none 0 0)]),PV.f (.agg [ay 3,ay 2,ay 4,ay 0,ay 0,FV.v (.slice none 0 0),FV.v (.slice none 0 0),aj 0,aj 0]),pS 10 false aK ([(⟨3,0,0,0,0,[],([1,2] : List UInt16),0,0,[]⟩ : TReply),(⟨3,0,0,0,0,[],([3,4] : List UInt16),0,0,[]⟩ : TReply)])]) (args' := [PV.f (cn (⟨1,65800,0,LK,[]⟩ : TTenant)),PV.f (bx (⟨3,2,4,0,0,[],[],0,0⟩ : TRequest)),pS 10 false aK ([(⟨3,0,0,0,0,[],([1,2] : List UInt16),0,0,[]⟩ : TReply),(⟨3,0,0,0,0,[],([3,4] : List UInt16),0,0,[]⟩ : TReply)])]) ⟨ed (FLe.agg ⟨FLe.refl _,FLe.refl _,FLe.refl _,FLe.refl _,FLe.nil 2 false,trivial⟩),⟨ed (FLe.agg ⟨FLe.refl _,FLe.refl _,FLe.refl _,FLe.refl _,FLe.refl _,FLe.nil 1 false,FLe.nil 1 false,FLe.refl _,FLe.refl _,trivial⟩),⟨le_refl _,trivial⟩⟩⟩ (eW (⟨1,65800,0,LK,[]⟩ : TTenant) (⟨3,2,4,0,0,[],[],0,0⟩ : TRequest) ([(⟨3,0,0,0,0,[],([1,2] : List UInt16),0,0,[]⟩ : TReply),(⟨3,0,0,0,0,[],([3,4] : List UInt16),0,0,[]⟩ : TReply)]) false J1 hJ1 (by decide) (by decide) (by decide) (by decide) (by decide))) ?_)
 refine qo N Z (cg aM ?_)
 refine qo N Z (aC aM Z Z Z Z Z (nb Z) ?_)
 let Ya1 : Nat × Pv.Obj := (6,.obj (bm J1))
 let Yc2 : Nat × PV := (3,PV.ptr 6 0)
 refine aE [Yc0,Yc1,Yc2] [Ya1,Ya5,Y8,Y2,Y3,Y1,Y0] 7 ⟨Z,Z,Z,trivial⟩ Z Z (re (sr (qo N Z (bj dG Z Z Z (nb Z) ?_))))
 refine qo N Z (bj bc Z Z Z (nb Z) ?_)
 refine qo N Z (bM (f := aj) ([1,2] : List UInt16) bf Z bE ⟨Z,by decide⟩ (by decide) Z Z Z Z ?_)
 refine qo N Z (bX aM Z Z (br Z aD Z Z Z (nb Z) (br Z bf Z Z Z (nb Z) (dp ?_))))
 refine lj (s := 25) Z Z (jq (s := 25) (y := PV.f (aK (⟨3,0,0,0,0,[],([1,2] : List UInt16),0,0,[]⟩ : TReply))) Z (ed (FLe.agg ⟨FLe.refl _,FLe.refl _,FLe.refl _,FLe.refl _,FLe.refl _,FLe.nil 1 false,FLe.refl _,FLe.refl _,FLe.refl _,FLe.nil 1 false,trivial⟩)) (qo N Z (bM (f := aK) [(⟨3,0,0,0,0,[],([1,2] : List UInt16),0,0,[]⟩ : TReply)] de Z aM ⟨Z,by decide⟩ (by decide) Z Z Z Z ?_)))
 obtain ⟨J2,hJ2⟩ : ∃ z : TReply,z = dt (⟨1,65800,0,LK,[]⟩ : TTenant).functions (⟨1,65800,0,LK,[]⟩ : TTenant).windows (⟨3,2,4,0,0,[],[],0,0⟩ : TRequest) ([(⟨3,0,0,0,0,[],([1,2] : List UInt16),0,0,[]⟩ : TReply)]) := ⟨_,rfl⟩
 let Y4 : Nat × Pv.Obj := (7,oB false 1 aj ([1,2] : List UInt16))
 let Ya6 : Nat × Pv.Obj := (5,oB false 10 aK ([(⟨3,0,0,0,0,[],([1,2] : List UInt16),0,0,[]⟩ : TReply),(⟨3,0,0,0,0,[],([3,4] : List UInt16),0,0,[]⟩ : TReply)]))
 let Yb5 : Nat × Pv.Obj := (8,oB false 10 aK ([(⟨3,0,0,0,0,[],([1,2] : List UInt16),0,0,[]⟩ : TReply)]))
 refine qo N Z (aN 9 (PV.f (aK J2)) [Yb5,Y8,Y4,Ya1,Ya6,Y2,Y3,Y1,Y0] [] (T.leL (args := [PV.f (.agg [ay 1,FV.v (.int .u32 65800),ay 0,FV.sl 4 false (List.map aR LK),FV.v (.slice none 0 0)]),PV.f (.agg [ay 3,ay 2,ay 4,ay 0,ay 0,FV.v (.slice none 0 0),FV.v (.slice none 0 0),aj 0,aj 0]),pS 10 false aK ([(⟨3,0,0,0,0,[],([1,2] : List UInt16),0,0,[]⟩ : TReply)])]) (args' := [PV.f (cn (⟨1,65800,0,LK,[]⟩ : TTenant)),PV.f (bx (⟨3,2,4,0,0,[],[],0,0⟩ : TRequest)),pS 10 false aK ([(⟨3,0,0,0,0,[],([1,2] : List UInt16),0,0,[]⟩ : TReply)])]) ⟨ed (FLe.agg ⟨FLe.refl _,FLe.refl _,FLe.refl _,FLe.refl _,FLe.nil 2 false,trivial⟩),⟨ed (FLe.agg ⟨FLe.refl _,FLe.refl _,FLe.refl _,FLe.refl _,FLe.refl _,FLe.nil 1 false,FLe.nil 1 false,FLe.refl _,FLe.refl _,trivial⟩),⟨le_refl _,trivial⟩⟩⟩ (eW (⟨1,65800,0,LK,[]⟩ : TTenant) (⟨3,2,4,0,0,[],[],0,0⟩ : TRequest) ([(⟨3,0,0,0,0,[],([1,2] : List UInt16),0,0,[]⟩ : TReply)]) false J2 hJ2 (by decide) (by decide) (by decide) (by decide) (by decide))) ?_)
 refine qo N Z (cg aM ?_)
 refine qo N Z (aC aM Z Z Z Z Z (nb Z) ?_)
 let Ya2 : Nat × Pv.Obj := (9,.obj (bm J2))
 let Yc4 : Nat × PV := (4,PV.ptr 9 0)
 refine aE [Yc0,Yc1,Yc2,Yc4] [Ya2,Yb5,Y8,Y4,Ya1,Ya6,Y2,Y3,Y1,Y0] 10 ⟨Z,Z,Z,Z,trivial⟩ Z Z (re (sr (qo N Z (bj dG Z Z Z (nb Z) ?_))))
 refine qo N Z (bj bc Z Z Z (nb Z) ?_)
 refine qo N Z (bM (f := aj) ([1,2] : List UInt16) bf Z bE ⟨Z,by decide⟩ (by decide) Z Z Z Z ?_)
 refine qo N Z (bX aM Z Z (br Z aD Z Z Z (nb Z) (br Z bf Z Z Z (nb Z) (dp ?_))))
 refine qo N Z (bX aM Z Z (br Z aD Z Z Z (nb Z) (br Z aD Z Z Z (nb Z) (dp ?_))))
 refine lj (s := 31) Z Z (jq (s := 31) (y := PV.f (aK (⟨3,0,0,0,0,[],([1,2] : List UInt16),0,0,[]⟩ : TReply))) Z (ed (FLe.agg ⟨FLe.refl _,FLe.refl _,FLe.refl _,FLe.refl _,FLe.refl _,FLe.nil 1 false,FLe.refl _,FLe.refl _,FLe.refl _,FLe.nil 1 false,trivial⟩)) (jq (s := 32) (y := PV.f (aK (⟨3,11,0,0,0,[],[],0,0,[]⟩ : TReply))) Z (ed (FLe.agg ⟨FLe.refl _,FLe.refl _,FLe.refl _,FLe.refl _,FLe.refl _,FLe.nil 1 false,FLe.nil 1 false,FLe.refl _,FLe.refl _,FLe.nil 1 false,trivial⟩)) (qo N Z (bM (f := aK) [(⟨3,0,0,0,0,[],([1,2] : List UInt16),0,0,[]⟩ : TReply),(⟨3,11,0,0,0,[],[],0,0,[]⟩ : TReply)] de Z aM ⟨Z,by decide⟩ (by decide) Z Z Z Z ?_))))
 obtain ⟨J3,hJ3⟩ : ∃ z : TReply,z = dt (⟨1,65800,0,LK,[]⟩ : TTenant).functions (⟨1,65800,0,LK,[]⟩ : TTenant).windows (⟨3,2,4,0,0,[],[],0,0⟩ : TRequest) ([(⟨3,0,0,0,0,[],([1,2] : List UInt16),0,0,[]⟩ : TReply),(⟨3,11,0,0,0,[],[],0,0,[]⟩ : TReply)]) := ⟨_,rfl⟩
 let Y5 : Nat × Pv.Obj := (10,oB false 1 aj ([1,2] : List UInt16))
 let Ya7 : Nat × Pv.Obj := (5,oB false 10 aK ([(⟨3,0,0,0,0,[],([1,2] : List UInt16),0,0,[]⟩ : TReply),(⟨3,0,0,0,0,[],([3,4] : List UInt16),0,0,[]⟩ : TReply)]))
 let Yb0 : Nat × Pv.Obj := (11,oB false 10 aK ([(⟨3,0,0,0,0,[],([1,2] : List UInt16),0,0,[]⟩ : TReply),(⟨3,11,0,0,0,[],[],0,0,[]⟩ : TReply)]))
 let Yb6 : Nat × Pv.Obj := (8,oB false 10 aK ([(⟨3,0,0,0,0,[],([1,2] : List UInt16),0,0,[]⟩ : TReply)]))
 refine qo N Z (aN 12 (PV.f (aK J3)) [Yb0,Y8,Y5,Ya2,Yb6,Y4,Ya1,Ya7,Y2,Y3,Y1,Y0] [] (T.leL (args := [PV.f (.agg [ay 1,FV.v (.int .u32 65800),ay 0,FV.sl 4 false (List.map aR LK),FV.v (.slice none 0 0)]),PV.f (.agg [ay 3,ay 2,ay 4,ay 0,ay 0,FV.v (.slice none 0 0),FV.v (.slice none 0 0),aj 0,aj 0]),pS 10 false aK ([(⟨3,0,0,0,0,[],([1,2] : List UInt16),0,0,[]⟩ : TReply),(⟨3,11,0,0,0,[],[],0,0,[]⟩ : TReply)])]) (args' := [PV.f (cn (⟨1,65800,0,LK,[]⟩ : TTenant)),PV.f (bx (⟨3,2,4,0,0,[],[],0,0⟩ : TRequest)),pS 10 false aK ([(⟨3,0,0,0,0,[],([1,2] : List UInt16),0,0,[]⟩ : TReply),(⟨3,11,0,0,0,[],[],0,0,[]⟩ : TReply)])]) ⟨ed (FLe.agg ⟨FLe.refl _,FLe.refl _,FLe.refl _,FLe.refl _,FLe.nil 2 false,trivial⟩),⟨ed (FLe.agg ⟨FLe.refl _,FLe.refl _,FLe.refl _,FLe.refl _,FLe.refl _,FLe.nil 1 false,FLe.nil 1 false,FLe.refl _,FLe.refl _,trivial⟩),⟨le_refl _,trivial⟩⟩⟩ (eW (⟨1,65800,0,LK,[]⟩ : TTenant) (⟨3,2,4,0,0,[],[],0,0⟩ : TRequest) ([(⟨3,0,0,0,0,[],([1,2] : List UInt16),0,0,[]⟩ : TReply),(⟨3,11,0,0,0,[],[],0,0,[]⟩ : TReply)]) false J3 hJ3 (by decide) (by decide) (by decide) (by decide) (by decide))) ?_)
 refine qo N Z (cg aM ?_)
 refine qo N Z (aC aM Z Z Z Z Z (nb Z) ?_)
 let Yb : Nat × Pv.Obj := (12,.obj (bm J3))
 let Yc5 : Nat × PV := (5,PV.ptr 12 0)
 refine aE [Yc0,Yc1,Yc2,Yc4,Yc5] [Yb,Yb0,Y8,Y5,Ya2,Yb6,Y4,Ya1,Ya7,Y2,Y3,Y1,Y0] 13 ⟨Z,Z,Z,Z,Z,trivial⟩ Z Z (re (sr (qo N Z (bj dG Z Z Z (nb Z) ?_))))
 refine qo N Z (bM (f := aj) ([1] : List UInt16) bf Z bE ⟨Z,by decide⟩ (by decide) Z Z Z Z ?_)
 refine qo N Z (bX bc Z Z (br Z aD Z Z Z (nb Z) (br Z bf Z Z Z (nb Z) (dp ?_))))
 obtain ⟨J4,hJ4⟩ : ∃ z : TReply,z = dt (⟨1,65800,0,LK,[]⟩ : TTenant).functions (⟨1,65800,0,LK,[]⟩ : TTenant).windows (⟨8,0,0,0,0,[],([1] : List UInt16),0,0⟩ : TRequest) [] := ⟨_,rfl⟩
 let Ya : Nat × Pv.Obj := (13,oB false 1 aj ([1] : List UInt16))
 let Ya8 : Nat × Pv.Obj := (5,oB false 10 aK ([(⟨3,0,0,0,0,[],([1,2] : List UInt16),0,0,[]⟩ : TReply),(⟨3,0,0,0,0,[],([3,4] : List UInt16),0,0,[]⟩ : TReply)]))
 let Yb1 : Nat × Pv.Obj := (11,oB false 10 aK ([(⟨3,0,0,0,0,[],([1,2] : List UInt16),0,0,[]⟩ : TReply),(⟨3,11,0,0,0,[],[],0,0,[]⟩ : TReply)]))
 let Yb7 : Nat × Pv.Obj := (8,oB false 10 aK ([(⟨3,0,0,0,0,[],([1,2] : List UInt16),0,0,[]⟩ : TReply)]))
 refine qo N Z (aN 14 (PV.f (aK J4)) [Ya,Y8,Yb,Yb1,Y5,Ya2,Yb7,Y4,Ya1,Ya8,Y2,Y3,Y1,Y0] [] (T.leL (args := [PV.f (.agg [ay 1,FV.v (.int .u32 65800),ay 0,FV.sl 4 false (List.map aR LK),FV.v (.slice none 0 0)]),PV.f (.agg [ay 8,ay 0,ay 0,ay 0,ay 0,FV.v (.slice none 0 0),FV.sl 1 false (List.map aj ([1] : List UInt16)),aj 0,aj 0]),aH]) (args' := [PV.f (cn (⟨1,65800,0,LK,[]⟩ : TTenant)),PV.f (bx (⟨8,0,0,0,0,[],([1] : List UInt16),0,0⟩ : TRequest)),pS 10 false aK []]) ⟨ed (FLe.agg ⟨FLe.refl _,FLe.refl _,FLe.refl _,FLe.refl _,FLe.nil 2 false,trivial⟩),⟨ed (FLe.agg ⟨FLe.refl _,FLe.refl _,FLe.refl _,FLe.refl _,FLe.refl _,FLe.nil 1 false,FLe.refl _,FLe.refl _,FLe.refl _,trivial⟩),⟨ed (FLe.nil 10 false),trivial⟩⟩⟩ (eW (⟨1,65800,0,LK,[]⟩ : TTenant) (⟨8,0,0,0,0,[],([1] : List UInt16),0,0⟩ : TRequest) [] false J4 hJ4 (by decide) (by decide) (by decide) (by decide) (by decide))) ?_)
 refine qo N Z (cg aM ?_)
 refine qo N Z (aC aM Z Z Z Z Z (nb Z) ?_)
 let Yb4 : Nat × Pv.Obj := (14,.obj (bm J4))
 refine aE [Yc0,Yc1,Yc2,Yc4,Yc5,(6,PV.ptr 14 0)] [Yb4,Ya,Y8,Yb,Yb1,Y5,Ya2,Yb7,Y4,Ya1,Ya8,Y2,Y3,Y1,Y0] 15 ⟨Z,Z,Z,Z,Z,Z,trivial⟩ Z Z (re (sr (qo N Z (bj dG Z Z Z (nb Z) ?_))))
 refine qo N Z (bM (f := aj) ([5] : List UInt16) bf Z bE ⟨Z,by decide⟩ (by decide) Z Z Z Z ?_)
 refine qo N Z (bX bc Z Z (br Z aD Z Z Z (nb Z) (br Z aD Z Z Z (nb Z) (br Z aD Z Z Z (nb Z) (br Z bf Z Z Z (nb Z) (fX (cs' := [pI 16,pI 1,pI 1,pI 0,pI 0,aH,PV.ref 15 0 none,au 0,au 0]) Z ?_))))))
 refine qo N Z (bX aM Z Z (br Z aD Z Z Z (nb Z) (br Z aD Z Z Z (nb Z) (br Z aD Z Z Z (nb Z) (fX (cs' := [pI 16,pI 0,pI 101,pI 1,pI 0,aH,aH,au 0,au 0,aH]) Z ?_)))))
 refine qo N Z (bX aM Z Z (br Z aD Z Z Z (nb Z) (br Z aD Z Z Z (nb Z) (dp ?_))))
 refine jq (s := 42) (y := PV.f (aK (⟨16,0,101,1,0,[],[],0,0,[]⟩ : TReply))) Z (ed (FLe.agg ⟨FLe.refl _,FLe.refl _,FLe.refl _,FLe.refl _,FLe.refl _,FLe.nil 1 false,FLe.nil 1 false,FLe.refl _,FLe.refl _,FLe.nil 1 false,trivial⟩)) (jq (s := 43) (y := PV.f (aK (⟨3,9,0,0,0,[],[],0,0,[]⟩ : TReply))) Z (ed (FLe.agg ⟨FLe.refl _,FLe.refl _,FLe.refl _,FLe.refl _,FLe.refl _,FLe.nil 1 false,FLe.nil 1 false,FLe.refl _,FLe.refl _,FLe.nil 1 false,trivial⟩)) (qo N Z (bM (f := aK) [(⟨16,0,101,1,0,[],[],0,0,[]⟩ : TReply),(⟨3,9,0,0,0,[],[],0,0,[]⟩ : TReply)] de Z aM ⟨Z,by decide⟩ (by decide) Z Z Z Z ?_)))
 obtain ⟨J5,hJ5⟩ : ∃ z : TReply,z = dt (⟨1,65800,0,LK,[]⟩ : TTenant).functions (⟨1,65800,0,LK,[]⟩ : TTenant).windows (⟨16,1,1,0,0,[],([5] : List UInt16),0,0⟩ : TRequest) ([(⟨16,0,101,1,0,[],[],0,0,[]⟩ : TReply),(⟨3,9,0,0,0,[],[],0,0,[]⟩ : TReply)]) := ⟨_,rfl⟩
 let Ya4 : Nat × Pv.Obj := (15,oB false 1 aj ([5] : List UInt16))
 let Ya9 : Nat × Pv.Obj := (5,oB false 10 aK ([(⟨3,0,0,0,0,[],([1,2] : List UInt16),0,0,[]⟩ : TReply),(⟨3,0,0,0,0,[],([3,4] : List UInt16),0,0,[]⟩ : TReply)]))
 let Yb2 : Nat × Pv.Obj := (11,oB false 10 aK ([(⟨3,0,0,0,0,[],([1,2] : List UInt16),0,0,[]⟩ : TReply),(⟨3,11,0,0,0,[],[],0,0,[]⟩ : TReply)]))
 let Yb3 : Nat × Pv.Obj := (16,oB false 10 aK ([(⟨16,0,101,1,0,[],[],0,0,[]⟩ : TReply),(⟨3,9,0,0,0,[],[],0,0,[]⟩ : TReply)]))
 let Yb8 : Nat × Pv.Obj := (8,oB false 10 aK ([(⟨3,0,0,0,0,[],([1,2] : List UInt16),0,0,[]⟩ : TReply)]))
 refine qo N Z (aN 17 (PV.f (aK J5)) [Yb3,Ya4,Y8,Yb4,Ya,Yb,Yb2,Y5,Ya2,Yb8,Y4,Ya1,Ya9,Y2,Y3,Y1,Y0] [] (T.leL (args := [PV.f (.agg [ay 1,FV.v (.int .u32 65800),ay 0,FV.sl 4 false (List.map aR LK),FV.v (.slice none 0 0)]),PV.f (.agg [ay 16,ay 1,ay 1,ay 0,ay 0,FV.v (.slice none 0 0),FV.sl 1 false (List.map aj ([5] : List UInt16)),aj 0,aj 0]),pS 10 false aK ([(⟨16,0,101,1,0,[],[],0,0,[]⟩ : TReply),(⟨3,9,0,0,0,[],[],0,0,[]⟩ : TReply)])]) (args' := [PV.f (cn (⟨1,65800,0,LK,[]⟩ : TTenant)),PV.f (bx (⟨16,1,1,0,0,[],([5] : List UInt16),0,0⟩ : TRequest)),pS 10 false aK ([(⟨16,0,101,1,0,[],[],0,0,[]⟩ : TReply),(⟨3,9,0,0,0,[],[],0,0,[]⟩ : TReply)])]) ⟨ed (FLe.agg ⟨FLe.refl _,FLe.refl _,FLe.refl _,FLe.refl _,FLe.nil 2 false,trivial⟩),⟨ed (FLe.agg ⟨FLe.refl _,FLe.refl _,FLe.refl _,FLe.refl _,FLe.refl _,FLe.nil 1 false,FLe.refl _,FLe.refl _,FLe.refl _,trivial⟩),⟨le_refl _,trivial⟩⟩⟩ (eW (⟨1,65800,0,LK,[]⟩ : TTenant) (⟨16,1,1,0,0,[],([5] : List UInt16),0,0⟩ : TRequest) ([(⟨16,0,101,1,0,[],[],0,0,[]⟩ : TReply),(⟨3,9,0,0,0,[],[],0,0,[]⟩ : TReply)]) false J5 hJ5 (by decide) (by decide) (by decide) (by decide) (by decide))) ?_)
 refine qo N Z (cg aM ?_)
 refine qo N Z (aC aM Z Z Z Z Z (nb Z) ?_)
 let Yc3 : Nat × Pv.Obj := (17,.obj (bm J5))
 refine aE [Yc0,Yc1,Yc2,Yc4,Yc5,(6,PV.ptr 14 0),(7,PV.ptr 17 0)] [Yc3,Yb3,Ya4,Y8,Yb4,Ya,Yb,Yb2,Y5,Ya2,Yb8,Y4,Ya1,Ya9,Y2,Y3,Y1,Y0] 18 ⟨Z,Z,Z,Z,Z,Z,Z,trivial⟩ Z Z (re (sr (qo N Z (bj dG Z Z Z (nb Z) ?_))))
 refine qo N Z (bj bc Z Z Z (nb Z) ?_)
 refine qo N Z (bM (f := aj) ([1,2] : List UInt16) bf Z bE ⟨Z,by decide⟩ (by decide) Z Z Z Z ?_)
 refine qo N Z (bX aM Z Z (br Z aD Z Z Z (nb Z) (br Z bf Z Z Z (nb Z) (dp ?_))))
 refine qo N Z (bM (f := aj) ([3] : List UInt16) bf Z bE ⟨Z,by decide⟩ (by decide) Z Z Z Z ?_)
 refine qo N Z (bX aM Z Z (br Z aD Z Z Z (nb Z) (br Z bf Z Z Z (nb Z) (dp ?_))))
 refine lj (s := 49) Z Z (jq (s := 49) (y := PV.f (aK (⟨3,0,0,0,0,[],([1,2] : List UInt16),0,0,[]⟩ : TReply))) Z (ed (FLe.agg ⟨FLe.refl _,FLe.refl _,FLe.refl _,FLe.refl _,FLe.refl _,FLe.nil 1 false,FLe.refl _,FLe.refl _,FLe.refl _,FLe.nil 1 false,trivial⟩)) (lj (s := 51) Z Z (jq (s := 51) (y := PV.f (aK (⟨3,0,0,0,0,[],([3] : List UInt16),0,0,[]⟩ : TReply))) Z (ed (FLe.agg ⟨FLe.refl _,FLe.refl _,FLe.refl _,FLe.refl _,FLe.refl _,FLe.nil 1 false,FLe.refl _,FLe.refl _,FLe.refl _,FLe.nil 1 false,trivial⟩)) (qo N Z (bM (f := aK) [(⟨3,0,0,0,0,[],([1,2] : List UInt16),0,0,[]⟩ : TReply),(⟨3,0,0,0,0,[],([3] : List UInt16),0,0,[]⟩ : TReply)] de Z aM ⟨Z,by decide⟩ (by decide) Z Z Z Z ?_)))))
 obtain ⟨J6,hJ6⟩ : ∃ z : TReply,z = dt (⟨1,65800,0,LK,[]⟩ : TTenant).functions (⟨1,65800,0,LK,[]⟩ : TTenant).windows (⟨3,2,4,0,0,[],[],0,0⟩ : TRequest) ([(⟨3,0,0,0,0,[],([1,2] : List UInt16),0,0,[]⟩ : TReply),(⟨3,0,0,0,0,[],([3] : List UInt16),0,0,[]⟩ : TReply)]) := ⟨_,rfl⟩
 let Y6 : Nat × Pv.Obj := (5,oB false 10 aK ([(⟨3,0,0,0,0,[],([1,2] : List UInt16),0,0,[]⟩ : TReply),(⟨3,0,0,0,0,[],([3,4] : List UInt16),0,0,[]⟩ : TReply)]))
 let Y7 : Nat × Pv.Obj := (20,oB false 10 aK ([(⟨3,0,0,0,0,[],([1,2] : List UInt16),0,0,[]⟩ : TReply),(⟨3,0,0,0,0,[],([3] : List UInt16),0,0,[]⟩ : TReply)]))
 let Y9 : Nat × Pv.Obj := (11,oB false 10 aK ([(⟨3,0,0,0,0,[],([1,2] : List UInt16),0,0,[]⟩ : TReply),(⟨3,11,0,0,0,[],[],0,0,[]⟩ : TReply)]))
 let Ya0 : Nat × Pv.Obj := (16,oB false 10 aK ([(⟨16,0,101,1,0,[],[],0,0,[]⟩ : TReply),(⟨3,9,0,0,0,[],[],0,0,[]⟩ : TReply)]))
 let Ya3 : Nat × Pv.Obj := (8,oB false 10 aK ([(⟨3,0,0,0,0,[],([1,2] : List UInt16),0,0,[]⟩ : TReply)]))
 let Yb9 : Nat × Pv.Obj := (18,oB false 1 aj ([1,2] : List UInt16))
 let Yc : Nat × Pv.Obj := (19,oB false 1 aj ([3] : List UInt16))
 refine qo N Z (aN 21 (PV.f (aK J6)) [Y7,Y8,Yc,Yb9,Yc3,Ya0,Ya4,Yb4,Ya,Yb,Y9,Y5,Ya2,Ya3,Y4,Ya1,Y6,Y2,Y3,Y1,Y0] [] (T.leL (args := [PV.f (.agg [ay 1,FV.v (.int .u32 65800),ay 0,FV.sl 4 false (List.map aR LK),FV.v (.slice none 0 0)]),PV.f (.agg [ay 3,ay 2,ay 4,ay 0,ay 0,FV.v (.slice none 0 0),FV.v (.slice none 0 0),aj 0,aj 0]),pS 10 false aK ([(⟨3,0,0,0,0,[],([1,2] : List UInt16),0,0,[]⟩ : TReply),(⟨3,0,0,0,0,[],([3] : List UInt16),0,0,[]⟩ : TReply)])]) (args' := [PV.f (cn (⟨1,65800,0,LK,[]⟩ : TTenant)),PV.f (bx (⟨3,2,4,0,0,[],[],0,0⟩ : TRequest)),pS 10 false aK ([(⟨3,0,0,0,0,[],([1,2] : List UInt16),0,0,[]⟩ : TReply),(⟨3,0,0,0,0,[],([3] : List UInt16),0,0,[]⟩ : TReply)])]) ⟨ed (FLe.agg ⟨FLe.refl _,FLe.refl _,FLe.refl _,FLe.refl _,FLe.nil 2 false,trivial⟩),⟨ed (FLe.agg ⟨FLe.refl _,FLe.refl _,FLe.refl _,FLe.refl _,FLe.refl _,FLe.nil 1 false,FLe.nil 1 false,FLe.refl _,FLe.refl _,trivial⟩),⟨le_refl _,trivial⟩⟩⟩ (eW (⟨1,65800,0,LK,[]⟩ : TTenant) (⟨3,2,4,0,0,[],[],0,0⟩ : TRequest) ([(⟨3,0,0,0,0,[],([1,2] : List UInt16),0,0,[]⟩ : TReply),(⟨3,0,0,0,0,[],([3] : List UInt16),0,0,[]⟩ : TReply)]) false J6 hJ6 (by decide) (by decide) (by decide) (by decide) (by decide))) ?_)
 refine qo N Z (cg aM ?_)
 refine qo N Z (aC aM Z Z Z Z Z (nb Z) ?_)
 refine aE [Yc2,Yc4,Yc5,(6,PV.ptr 14 0),(7,PV.ptr 17 0),(8,PV.ptr 21 0)] [(21,.obj (bm J6)),Y7,Y8,Yc,Yb9,Yc3,Ya0,Ya4,Yb4,Ya,Yb,Y9,Y5,Ya2,Ya3,Y4,Ya1,Y6,Y2,Y3,Y1,Y0] 22 ⟨Z,Z,Z,Z,Z,Z,trivial⟩ Z Z (re (an ?_))
 have ej1 : J1 = JR [1,2,3,4] := hJ1.trans Cx
 have ej2 : J2 = aB 3 4 := hJ2.trans Cw
 have ej3 : J3 = aB 3 11 := hJ3.trans Cv
 have ej4 : J4 = aB 8 4 := hJ4.trans Cu
 have ej5 : J5 = (⟨16,0,1,1,0,[],[],0,0,[]⟩ : TReply) := hJ5.trans Ct
 have ej6 : J6 = aB 3 4 := hJ6.trans Cs
 refine bk (xp N 2 [.o 2] [] [(55,pS 1 false aj J1.vals)] (qo N Z (bM (f := aj) ([1,2,3,4] : List UInt16) bf Z bE ⟨Z,by decide⟩ (by decide) Z Z Z Z ?_)))
 let Y : ah := [(22,oB false 1 aj ([1,2,3,4] : List UInt16)),(21,.obj (bm J6)),Y7,Y8,Yc,Yb9,Yc3,Ya0,Ya4,Yb4,Ya,Yb,Y9,Y5,Ya2,Ya3,Y4,Ya1,Y6,Y2,Y3,Y1,Y0]
 refine qo N Z (aN 23 (pB (decide (J1.vals = ([1,2,3,4] : List UInt16)))) Y [] (jw J1.vals false ([1,2,3,4] : List UInt16) false (by rw [ej1]; decide)) ?_)
 refine qm N Z Z (bS aF N Z Z Z (fun g1 => ?_) (fun g1 => ?_))
 ·have g1' := g1
  try simp only [sB] at g1'
  refine qo N Z (aX aM Z Z aD (by decide) Z ?_)
  refine bh (s := 58) Z (congrArg pB g1) (xp N 4 [.o 4] [] [(63,pB (decide (J1.code = 0)))] (bS aF N Z Z Z (fun g2 => ?_) (fun g2 => ?_)))
  ·have g2' := g2
   try simp only [sB] at g2'
   refine qo N Z (aX aM Z Z aD (by decide) Z ?_)
   refine bh (s := 63) Z (congrArg pB g2) (xp N 4 [.o 4] [] [(68,pB (decide (J1.fn = 3)))] (bS aF N Z Z Z (fun g3 => ?_) (fun g3 => ?_)))
   ·have g3' := g3
    try simp only [sB] at g3'
    refine qo N Z (aX aM Z Z aD (by decide) Z ?_)
    refine bh (s := 68) Z (congrArg pB g3) (xp N 4 [.o 4] [] [(73,pB (decide (J2.code = 4)))] (bS aF N Z Z Z (fun g4 => ?_) (fun g4 => ?_)))
    ·have g4' := g4
     try simp only [sB] at g4'
     refine qo N Z (aX aM Z Z aD (by decide) Z ?_)
     refine bh (s := 73) Z (congrArg pB g4) (xp N 4 [.o 4] [] [(78,pB (decide (J3.code = 11)))] (bS aF N Z Z Z (fun g5 => ?_) (fun g5 => ?_)))
     ·have g5' := g5
      try simp only [sB] at g5'
      refine qo N Z (aX aM Z Z aD (by decide) Z ?_)
      refine bh (s := 78) Z (congrArg pB g5) (xp N 4 [.o 4] [] [(83,pB (decide (J4.code = 4)))] (bS aF N Z Z Z (fun g6 => ?_) (fun g6 => ?_)))
      ·have g6' := g6
       try simp only [sB] at g6'
       refine qo N Z (aX aM Z Z aD (by decide) Z ?_)
       refine bh (s := 83) Z (congrArg pB g6) (xp N 4 [.o 4] [] [(88,pB (decide (J4.fn = 8)))] (bS aF N Z Z Z (fun g7 => ?_) (fun g7 => ?_)))
       ·have g7' := g7
        try simp only [sB] at g7'
        refine qo N Z (bj aM Z Z Z (nb Z) ?_)
        refine bh (s := 88) Z (congrArg pB g7) (ry N Z Z Z Z (qo N Z (bX aM Z Z (br Z aD Z Z Z (nb Z) (br Z aD Z Z Z (nb Z) (br Z aD Z Z Z (nb Z) (fX (cs' := [pI 16,pI 0,pI 1,pI 1,pI 0,aH,aH,au 0,au 0,aH]) Z ?_)))))))
        refine ry N Z Z Z Z (qo N Z (aO Z Z Z (T.leL (args := [PV.f (aK J5),PV.f (.agg [ay 16,ay 0,ay 1,ay 1,ay 0,FV.v (.slice none 0 0),FV.v (.slice none 0 0),aj 0,aj 0,FV.v (.slice none 0 0)])]) (args' := [PV.f (aK J5),PV.f (aK (⟨16,0,1,1,0,[],[],0,0,[]⟩ : TReply))]) ⟨le_refl _,⟨ed (FLe.agg ⟨FLe.refl _,FLe.refl _,FLe.refl _,FLe.refl _,FLe.refl _,FLe.nil 1 false,FLe.nil 1 false,FLe.refl _,FLe.refl _,FLe.nil 1 false,trivial⟩),trivial⟩⟩ (f9 J5 (⟨16,0,1,1,0,[],[],0,0,[]⟩ : TReply) (by rw [ej5]; decide))) Z ?_))
        refine qo N Z (bg Z Z Z ?_)
        refine qm N Z Z (bS aF N Z Z Z (fun g8 => ?_) (fun g8 => ?_))
        ·have g8' := g8
         try simp only [sB] at g8'
         refine qo N Z (aX aM Z Z aD (by decide) Z ?_)
         exact bh (s := 93) Z (congrArg pB g8) (xp N 4 [.o 4] [] [(0,pB (decide (J6.code = 4)))] (aE [(0,pB (decide (J6.code = 4)))] Y 23 ⟨Z,trivial⟩ Z Z (re (aq (s := 0) Z (congrArg pB (show (decide (J6.code = 4)) = true by (rw [ej6]; decide))) (w_ret fp)))))
        exact absurd g8 (by (rw [ej5]; decide))
       exact absurd g7 (by (rw [ej4]; decide))
      exact absurd g6 (by (rw [ej4]; decide))
     exact absurd g5 (by (rw [ej3]; decide))
    exact absurd g4 (by (rw [ej2]; decide))
   exact absurd g3 (by (rw [ej1]; decide))
  exact absurd g2 (by (rw [ej1]; decide))
 exact absurd g1 (by (rw [ej1]; decide))
theorem jJ (t : List Int) (cl_t : Bool) (u : List Int) (cl_u : Bool) (v : List Int) (cl_v : Bool) (i : Int) (ht : t.length ≤ 70000000000000) (hu : u.length ≤ 70000000000000) (hv0 : v.length ≤ 70000000000000) :
    T Tryz.prog 3 [pS 1 cl_t ay t,pS 1 cl_u ay u,pS 1 cl_v ay v,pI i] 0 [] (Ret (pB true) 0 []) := by
 refine bn aF (n := 90) (rs := [.tmp 8]) Tryz.func3 Z Z Z Z (nb Z) ?_
 intro c N hk
 refine sr (ae N Z Z (sr (qm N Z Z (qm N Z Z ?_))))
 obtain ⟨mk1,hmk1⟩ : ∃ z : Nat,z = (i % 2 ^ 2).toNat := ⟨_,rfl⟩
 have lmk1 : mk1 < 4 := by omega
 refine qo N Z (yS 2 (by decide) hmk1 Z Z (by decide) ?_)
 refine qo N Z (w5 (p := fun (p1 : TTenant) => WinsOk p1.windows) (r2 := fun p1 => PV.f (cn p1)) (nx1 := 0) (H2 := []) (H3 := fun p1 => []) [] [] Z Z Z (jf (by decide) trivial) Z Z Z Z Z Z (ku t cl_t mk1 (by omega) (by omega)) (fun p1 => Z) (fun p1 => kG Z) (fun p1 => Z) (fun p1 => Z) Z (fun p1 => Z) (fun p1 hp1 => ?_))
 let Y1 : Nat × Pv.Obj := (0,.obj (fc p1))
 refine xm N 2 [.o 2] [] [(9,PV.ptr 0 0)] 1 [Y1] (re (an ?_))
 have hl1 := hp1.len
 refine bk (qm N Z Z (qo N Z (bX rj Z Z (br Z ew Z Z Z (nb Z) (dp ?_)))))
 refine qo N Z (cu Z Z ?_)
 refine qo N Z (nc (p := fun (q1 : TRequest) (b1 : Nat) => bK q1 = 0 ∧ q1.bits.length ≤ 25 ∧ q1.vals.length ≤ 25 ∧ 0 ≤ q1.count ∧ q1.count ≤ 25) (r2 := fun q1 b1 => PV.f (bx q1)) (nx1 := 2) (H2 := [(1,.obj [pS 1 cl_u ay u,pI 0]),Y1]) (H3 := fun q1 b1 => [(1,.obj [pS 1 false ay u,pN b1]),Y1]) [1] [.obj [pS 1 cl_u ay u,pI 0]] Z Z Z (jf (by decide) ⟨Z,trivial⟩) Z Z Z Z Z Z (jn u cl_u 0 (by omega)) (fun q1 b1 => Z) (fun q1 b1 => kG Z) (fun q1 b1 => Z) (fun q1 b1 => Z) Z (fun q1 b1 => Z) (fun q1 b1 hq1 => ?_))
 refine qo N Z (cg bc ?_)
 refine qo N Z (aC bc Z Z Z Z Z (nb Z) ?_)
 let Y0 : Nat × Pv.Obj := (1,.obj [pS 1 false ay u,pN b1])
 let Y2 : Nat × Pv.Obj := (2,.obj (cd q1))
 refine aE [(2,pS 1 cl_v ay v),(9,PV.ptr 0 0),(10,PV.ptr 2 0)] [Y2,Y0,Y1] 3 ⟨Z,Z,Z,trivial⟩ Z Z (re (an ?_))
 obtain ⟨hr1,hqb1,hqv1,hqc1,hqd1⟩ := hq1
 have hq25 : q1.count ≤ 25 ∧ q1.bits.length ≤ 25 ∧ q1.vals.length ≤ 25 := ⟨hqd1,hqb1,hqv1⟩
 let Y3 : Nat × Pv.Obj := (3,oB true 10 aK (ansGo v true (splitP p1.functions p1.windows q1).1 0))
 refine cK N (xq 5 [.o 5] [] (xk [(27,PV.f (cn p1)),(28,PV.f (bx q1)),(29,pS 1 cl_v ay v)] [] [] [Y3] [Y3,Y2,Y0,Y1] (aN 4 (PV.ref 3 0 none) _ [] (kl p1 q1 v cl_v true (by omega) (by omega) (by omega) (by omega) (by exact ig hq25)) ⟨Z,Z,Z⟩) ?_))
 obtain ⟨J1,hJ1⟩ : ∃ z : TReply,z = dt p1.functions p1.windows q1 (ansGo v true (splitP p1.functions p1.windows q1).1 0) := ⟨_,rfl⟩
 let Y : Nat × Pv.Obj := (3,oB false 10 aK (ansGo v true (splitP p1.functions p1.windows q1).1 0))
 let Y5 : Nat × Pv.Obj := (4,.obj (bm J1))
 refine xk [(25,PV.f (cn p1)),(26,PV.f (bx q1)),(30,PV.ref 3 0 none)] [] [Y3] [Y] [Y,Y2,Y0,Y1] (aN 4 (PV.f (aK J1)) _ [] (eW p1 q1 (ansGo v true (splitP p1.functions p1.windows q1).1 0) false J1 hJ1 (by omega) (by omega) (by omega) (by exact Nat.le_trans (xQ hq25) (by decide)) (by exact qh hq25)) ⟨Z,Z,Z⟩) (xd 2 [.o 2] [] 5 [Y5,Y,Y2,Y0,Y1] (xe [(9,PV.ptr 0 0),(10,PV.ptr 2 0),(11,PV.ptr 4 0)] (re (an ?_))))
 have hjl : J1.bits.length ≤ 140737488351232 ∧ J1.vals.length ≤ 70368744175616 ∧ J1.data.length ≤ 5000 := by rw [hJ1]; exact vA (by omega) (by omega) (qh hq25)
 have hll := xw J1
 refine bk (xp N 2 [.o 2] [] [(32,PV.f (cn p1)),(33,PV.f (bx q1))] (qo N Z (aO Z Z Z (iz p1 q1 (by omega) (by omega) (by omega)) Z ?_)))
 refine ae N Z Z (an (an ?_))
 obtain ⟨rf,rg,rc,rl,rz⟩ := u9 (F := p1.functions) (l := p1.windows) (q := q1) (L := v) hr1 hq25 hJ1
 refine bk (xp N 6 [.o 6] [] [(40,pB (!decide (J1.fn = q1.fn)))] (bS aF N Z Z Z (fun g1 => ?_) (fun g1 => ?_)))
 ·have g1' := g1
  try simp only [sB] at g1'
  refine qo N Z (bj aM Z Z Z (nb Z) ?_)
  refine bh (s := 40) Z (congrArg pB g1) (ry N Z Z Z Z (qo N Z (aO Z Z Z (gi J1 (by omega)) Z ?_)))
  refine xp N 2 [.o 2] [] [(44,pB (!decide (bI J1 = 0)))] (re (av Z (fun c1 => ?_) (fun c1 => ?_)))
  ·have c1_ := c1
   try simp only [sB] at c1
   exact sr (ae N Z Z (aq (s := 8) Z (congrArg pB (show false = true by (exfalso; simp [rg] at c1_; done))) (w_ret (af fp))))
  have c1_ := c1
  try simp only [sB] at c1
  refine aw (ak (an (sr (xp N 1 [.o 1] [] [(45,PV.f (bx q1))] (qo N Z (aO Z Z Z (kW q1) Z ?_))))))
  refine xp N 4 [.o 1,.b 2 [.o 2]] [] [(50,pB ((dP q1.fn) && (decide (bL p1.functions p1.windows q1 = 0))))] (re (av Z (fun c2 => ?_) (fun c2 => ?_)))
  ·have c2_ := c2
   try simp only [sB] at c2
   simp only [Bool.and_eq_true,decide_eq_true_eq] at c2_
   have h4 := rl c2_.2 c2_.1
   refine bk (ae N Z Z (an (sr (xp N 2 [.o 2] [] [(52,pB true)] (re ?_)))))
   refine av Z (fun _ => ?_) (fun e => absurd e (by decide))
   refine sr (xp N 8 [.o 5,.b 1 [.c (pB true)],.o 1] [(decide (J1.code = 4)) = true → AllP [T Tryz.prog 11 [] 0 [] (Ret (pB true) 0 [])]] [(8,pB ((decide (J1.code = 4)) && true))] ?_ (hc := ⟨by intro hq; (try simp only [sB] at hq); exact ⟨(w_burgagelaw15_known),trivial⟩,trivial⟩))
   exact re (aq (s := 8) Z (congrArg pB (show ((decide (J1.code = 4)) && true) = true by (simp [h4]; done))) (w_ret (af fp)))
  have c2_ := c2
  try simp only [sB] at c2
  refine aw (ak (an (sr (qm N Z Z (qo N Z (el Z Z ?_))))))
  refine re (av Z (fun c3 => ?_) (fun c3 => ?_))
  ·have c3_ := c3
   try simp only [sB] at c3
   have hcd := rc (by simpa using c3_)
   refine sr (xp N 8 [.o 5,.b 1 [.c (pB true)],.o 1] [(decide (J1.code = bL p1.functions p1.windows q1)) = true → AllP [T Tryz.prog 11 [] 0 [] (Ret (pB true) 0 [])]] [(8,pB ((decide (J1.code = bL p1.functions p1.windows q1)) && true))] ?_ (hc := ⟨by intro hq; (try simp only [sB] at hq); exact ⟨(w_burgagelaw15_known),trivial⟩,trivial⟩))
   exact re (aq (s := 8) Z (congrArg pB (show ((decide (J1.code = bL p1.functions p1.windows q1)) && true) = true by (simp [hcd]; done))) (w_ret (af fp)))
  have c3_ := c3
  try simp only [sB] at c3
  refine aw (ak (an ?_))
  have hc0 : bL p1.functions p1.windows q1 = 0 := by simpa using c3_
  have hlo : dP q1.fn = false := by simpa [hc0] using c2_
  obtain ⟨rz0,rzc⟩ := rz hc0 hlo
  let Y4 : Nat × Pv.Obj := (5,oB false 1 az (il J1))
  refine bk (xp N 1 [.o 1] [] [(61,PV.f (aK J1))] (qo N Z (aN 6 (PV.tup [PV.ref 5 0 none,pI (bI J1)]) [Y4,Y5,Y,Y2,Y0,Y1] [] (mJ J1 (by omega)) ?_)))
  refine xp N 5 [.o 5] [] [(13,PV.ref 5 0 none),(14,pI (bI J1))] (aE [(10,PV.ptr 2 0),(11,PV.ptr 4 0),(13,PV.ref 5 0 none),(14,pI (bI J1))] [Y4,Y5,Y,Y2,Y0,Y1] 6 ⟨Z,Z,Z,Z,trivial⟩ Z Z (re (sr (xp N 2 [.o 2] [] [(66,PV.ref 5 0 none),(67,PV.f (bx q1))] ?_))))
  obtain ⟨R1,hR1⟩ : ∃ z : TReply × Int,z = dS dd (il J1) q1 := ⟨_,rfl⟩
  refine qo N Z (aN 6 (PV.tup [PV.f (aK R1.1),pI R1.2]) [Y4,Y5,Y,Y2,Y0,Y1] [] (lP (il J1) false q1 R1 hR1 (by omega) (by omega)) ?_)
  refine qm N Z Z (qo N Z (cX Z Z ?_))
  refine qo N Z (cX Z Z ?_)
  refine qo N Z (cg aM ?_)
  refine qo N Z (aC aM Z Z Z Z Z (nb Z) ?_)
  refine qa N Z Z (aE [(11,PV.ptr 4 0),(14,pI (bI J1)),(15,PV.ptr 6 0),(16,pI R1.2)] [(6,.obj (bm R1.1)),Y4,Y5,Y,Y2,Y0,Y1] 7 ⟨Z,Z,Z,Z,trivial⟩ Z Z (re (an ?_)))
  have hR : R1 = (J1,0) := by rw [hR1,← uP]; exact uR rg rf rzc
  refine eN (H' := [(6,.obj (bm J1)),Y4,Y5,Y,Y2,Y0,Y1]) (congrArg (fun z : TReply => ([(6,.obj (bm z)),Y4,Y5,Y,Y2,Y0,Y1] : ah)) (show R1.1 = J1 by rw [hR])) (aq (s := 16) Z (congrArg pI (show R1.2 = 0 by rw [hR])) (bk (xp N 4 [.o 4] [] [(74,pB (decide (J1.code = 0)))] (bS aF N Z Z Z (fun g5 => ?_) (fun g5 => ?_)))))
  ·have g5' := g5
   try simp only [sB] at g5'
   refine qm N Z Z (bh (s := 74) Z (congrArg pB g5) (xp N 3 [.o 3] [] [(78,pB (decide (bI J1 = 0)))] (bS aF N Z Z Z (fun g6 => ?_) (fun g6 => ?_))))
   ·have g6' := g6
    try simp only [sB] at g6'
    refine qm N Z Z (bh (s := 78) Z (congrArg pB g6) (xp N 3 [.o 3] [] [(82,pB (decide (0 = 0)))] (bS aF N Z Z Z (fun g7 => ?_) (fun g7 => ?_))))
    ·have g7' := g7
     try simp only [sB] at g7'
     refine qo N Z (bj aM Z Z Z (nb Z) ?_)
     refine bh (s := 82) Z (congrArg pB g7) (xp N 1 [.o 1] [] [(84,PV.f (aK J1))] (ry N Z Z Z Z (qo N Z (aO Z Z Z (f9 J1 J1 (by exact ⟨by omega,by omega,by omega⟩)) Z ?_))))
     refine xp N 2 [.o 2] [] [(87,pB (decide (J1 = J1)))] (bS aF N Z Z Z (fun g8 => ?_) (fun g8 => ?_))
     ·have g8' := g8
      try simp only [sB] at g8'
      refine qo N Z (aO Z Z Z (w_burgagelaw15_known) Z ?_)
      exact bh (s := 87) Z (congrArg pB g8) (xp N 2 [.o 2] [] [(8,pB true)] (re (w_ret fp)))
     exact absurd g8 (by (simp [rf]; done))
    exact absurd g7 (by (simp [rf]; done))
   exact absurd g6 (by (simp [rz0,rg]; done))
  exact absurd g5 (by (simp [rz0,rg]; done))
 exact absurd g1 (by (simp [rf]; done))
end Go.Proofs.YtlcmbkkimgdnmaaGreat
